/-
  The states of a committee behind a round, relative to what all hold; when a round from one of them ends well.
-/
import Derived.Test.YtjbokbikkcfjjaaGreatAan
set_option maxRecDepth 16000
set_option maxHeartbeats 8000000
set_option linter.all false
namespace Go.Proofs.YtjbokbikkcfjjaaGreat
open Go.Cap
def cst (ld : Nat) (v0 v1 v2 : Int) (t1 t2 : Int) (c1 c2 : List UInt8) : Rs :=
 let lg : List En := [⟨t1, 0, c1⟩, ⟨t2, 0, c2⟩]
 let nd (i : Nat) (v : Int) : Nd := ⟨i, t2, v, 0, 0, 7, [], lg, 2, if i = ld then 2 else 0, 1, 0, if i = ld then (F5.mk 3 3 3 0 0).set i 0 else .all 0, if i = ld then ⟨2, 2, 2, 0, 0⟩ else .all 0⟩
 let o : List Nat := [0, 1, 2].filter (· ≠ ld)
 ⟨[nd 0 v0, nd 1 v1, nd 2 v2], (o.map fun (i : Nat) => (⟨4, i, ld, t2, 2, 0, 0, 0, true, [], []⟩ : Ms)) ++ o.map fun (i : Nat) => ⟨3, ld, i, t2, 2, t2, 2, 0, false, [], []⟩, false, default, true⟩
def DO : List Rs := [cst 0 0 0 0 0 1 [99] [], cst 1 (-1) 1 1 1 1 [] [99], cst 0 0 0 0 1 2 [] [], cst 0 0 0 0 1 1 [] [99], cst 1 (-1) 1 1 0 0 [99] [99], cst 0 0 (-1) 0 0 1 [99] [], cst 0 0 0 0 0 0 [99] [99], cst 0 0 (-1) 0 1 1 [] [99], cst 0 0 (-1) 0 0 0 [99] [99]]
def GW (z : Bool) : Nat → Rs → List Rs
 | 0, s => [s]
 | k + 1, s => if Jh z 9 s = [s] then [s] else (Jh z 9 s).flatMap (GW z k)
theorem DP {z : Bool} {s : Rs} (h : Jh z 9 s = [s]) : ∀ k, JN z 9 k s = [s]
 | 0 => rfl
 | k + 1 => by
  show (Jh z 9 s).flatMap (JN z 9 k) = _
  rw [h, List.flatMap_cons, List.flatMap_nil, List.append_nil, DP h k]
theorem DR (z : Bool) : ∀ k s, GW z k s = JN z 9 k s
 | 0, _ => rfl
 | k + 1, s => by
  unfold GW
  split
  ·rename_i h; rw [DP h]
  ·show _ = (Jh z 9 s).flatMap (JN z 9 k)
   rw [funext (DR z k)]
def JL (n : Nd) : Nat := Xy (n.log.take n.commit.toNat)
def UI (s : Rs) (k : Nat) (s2 : Rs) : Bool :=
 s2.ok && (decide (MC s2 ∈ DO) && (decide (((s2.n 1).log = (s2.n 0).log ∧ (s2.n 2).log = (s2.n 0).log) ∧ s2.dead = false) && (s2.ns.all (fun n => decide (n.mtch.d = 0 ∧ n.mtch.e = 0)) && decide (Xy (s.n 0).log + k ≤ Xy (s2.n 0).log))))
def YF (z : Bool) (fi : Nat) (s : Rs) (p : Rs × Nat) : Bool := (Wz fi p.1).all fun s1 => s1.ok && (decide (JL (s.n fi) ≤ JL (s1.n fi)) && (JN z 9 60 s1).all (UI s p.2))
def Vx (z : Bool) (fi : Nat) (s : Rs) : Bool := (DG z fi [0, 1, 2] (s, 0)).all (YF z fi s)
def Wh (z : Bool) (fi : Nat) (s : Rs) (p : Rs × Nat) : Bool := (Wz fi p.1).all fun s1 => s1.ok && (decide (JL (s.n fi) ≤ JL (s1.n fi)) && (GW z 60 s1).all (UI s p.2))
def Y0 (z : Bool) (fi : Nat) (s : Rs) : Bool := (DG z fi [0, 1, 2] (s, 0)).all (Wh z fi s)
theorem EE (z : Bool) (fi : Nat) (s : Rs) : Y0 z fi s = Vx z fi s := by
 unfold Y0 Vx Wh YF
 simp only [DR]
def DB (s : Rs) : Bool := decide (s.dead = false ∧ ((s.n 1).log = (s.n 0).log ∧ (s.n 2).log = (s.n 0).log) ∧ ((s.n 0).commit = (s.n 0).log.length ∧ ((s.n 1).commit = (s.n 1).log.length ∧ (s.n 2).commit = (s.n 2).log.length)))
theorem IX : DO.all DB = true := by decide +kernel
theorem IY : EU.all DB = true := by decide +kernel
def okC (c : Rs) : Bool :=
 c.ns.all (fun n => decide ((0 ≤ n.term ∧ 0 ≤ n.commit) ∧ ((n.role = 2 → (0 ≤ n.mtch.a ∧ 0 ≤ n.mtch.b) ∧ 0 ≤ n.mtch.c) ∧ n.log.length = 2))) && (c.way.all (fun m => decide ((m.kind = 3 ∨ m.kind = 4) ∧ m.entries = [])) && decide (c.ns.length = 3))
theorem Be : DO.all okC = true := by decide +kernel
section
variable {pre : List En} {T : Int} {n r : Nd} {m q : Ms}
theorem Co (T t : Int) (d : Nat) (r : Nd) : (U6 d t r).log.map (shE (T + t)) = (r.log.drop d).map (shE T) := by
 show ((r.log.drop d).map fun e => { e with term := e.term - t }).map (shE (T + t)) = _
 rw [List.map_map]
 refine List.map_congr_left fun e _ => ?_
 show shE (T + t) { e with term := e.term - t } = shE T e
 unfold shE
 simp only [En.mk.injEq, and_true]
 omega
theorem RN.can (h : RN pre T n r) {L : List En} {d : Nat} {t : Int} (hL : r.log.take d = L) (hd : L.length = d) (ht : 0 ≤ (U6 d t r).term) (hc : 0 ≤ (U6 d t r).commit)
  (hm : (U6 d t r).role = 2 → (0 ≤ (U6 d t r).mtch.a ∧ 0 ≤ (U6 d t r).mtch.b) ∧ 0 ≤ (U6 d t r).mtch.c) (hde : r.mtch.d = 0 ∧ r.mtch.e = 0) : RN (pre ++ L.map (shE T)) (T + t) n (U6 d t r) := by
 have hlen : (pre ++ L.map (shE T)).length = pre.length + d := by rw [List.length_append, List.length_map, hd]
 have h1 := h.term
 have h2 := h.com
 refine { h with term := ?_, term0 := ht, log := ?_, conf := ?_, com := ?_, com0 := hc, votes := fun hr => ?_, nxt := fun hr j hj hne => ?_, mt := fun hr j hj => ?_ }
 ·show n.term = r.term - t + (T + t)
  omega
 ·rw [Co, h.log, ← hL, List.append_assoc, ← List.map_append, List.take_append_drop]
 ·intro e he
  obtain ⟨e', he', rfl⟩ := List.mem_map.1 (show e ∈ (r.log.drop d).map fun e => { e with term := e.term - t } from he)
  exact h.conf e' (List.mem_of_mem_drop he')
 ·show n.commit = r.commit - d + ((pre ++ L.map (shE T)).length : Nat)
  rw [hlen]; omega
 ·have hr : r.role = 1 := hr
  show n.votes = if r.role = 1 then r.votes else 0
  rw [if_pos hr]; exact h.votes hr
 ·have hr : r.role = 2 := hr
  have hi0 := h.id0
  have hi3 := h.id3
  have hx := h.nxt hr j hj hne
  show n.next.get j = F5.get (if r.role = 2 then F5.set ⟨r.next.a - d, r.next.b - d, r.next.c - d, 0, 0⟩ r.id.toNat 0 else .all 0) j + ((pre ++ L.map (shE T)).length : Nat)
  rw [if_pos hr, F5.get_set _ _ _ _ (by omega) (by omega), if_neg (show ¬ r.id.toNat = j by show ¬ r.id.toNat = j; have : ¬ (j : Int) = r.id := hne; omega), hlen, hx]
  have : j = 0 ∨ j = 1 ∨ j = 2 := by omega
  rcases this with rfl | rfl | rfl
  ·show r.next.a + _ = r.next.a - d + _; omega
  ·show r.next.b + _ = r.next.b - d + _; omega
  ·show r.next.c + _ = r.next.c - d + _; omega
 ·have hr : r.role = 2 := hr
  obtain ⟨⟨ma, mb⟩, mc⟩ := hm hr
  have em : (U6 d t r).mtch = ⟨r.mtch.a - d, r.mtch.b - d, r.mtch.c - d, 0, 0⟩ := if_pos hr
  rw [em] at ma mb mc ⊢
  obtain ⟨g0, g1⟩ := h.mt hr j hj
  obtain ⟨d1, d2⟩ := hde
  unfold MtR
  rw [hlen]
  simp only at ma mb mc
  have : j = 0 ∨ j = 1 ∨ j = 2 ∨ j = 3 ∨ j = 4 := by omega
  rcases this with rfl | rfl | rfl | rfl | rfl
  ·show 0 ≤ r.mtch.a - d ∧ (_ = r.mtch.a - d + _ ∨ r.mtch.a - d = 0 ∧ _)
   have g1 : n.mtch.get 0 = r.mtch.a + pre.length ∨ r.mtch.a = 0 ∧ 0 ≤ n.mtch.get 0 ∧ n.mtch.get 0 ≤ pre.length := g1
   omega
  ·show 0 ≤ r.mtch.b - d ∧ (_ = r.mtch.b - d + _ ∨ r.mtch.b - d = 0 ∧ _)
   have g1 : n.mtch.get 1 = r.mtch.b + pre.length ∨ r.mtch.b = 0 ∧ 0 ≤ n.mtch.get 1 ∧ n.mtch.get 1 ≤ pre.length := g1
   omega
  ·show 0 ≤ r.mtch.c - d ∧ (_ = r.mtch.c - d + _ ∨ r.mtch.c - d = 0 ∧ _)
   have g1 : n.mtch.get 2 = r.mtch.c + pre.length ∨ r.mtch.c = 0 ∧ 0 ≤ n.mtch.get 2 ∧ n.mtch.get 2 ≤ pre.length := g1
   omega
  ·show (0 : Int) ≤ 0 ∧ (_ = (0 : Int) + _ ∨ (0 : Int) = 0 ∧ _)
   have g1 : n.mtch.get 3 = r.mtch.d + pre.length ∨ r.mtch.d = 0 ∧ 0 ≤ n.mtch.get 3 ∧ n.mtch.get 3 ≤ pre.length := g1
   omega
  ·show (0 : Int) ≤ 0 ∧ (_ = (0 : Int) + _ ∨ (0 : Int) = 0 ∧ _)
   have g1 : n.mtch.get 4 = r.mtch.e + pre.length ∨ r.mtch.e = 0 ∧ 0 ≤ n.mtch.get 4 ∧ n.mtch.get 4 ≤ pre.length := g1
   omega
theorem RM.can (h : RM pre T m q) {P : List En} {d : Nat} {t : Int} (hP : P.length = pre.length + d) (hk : ((Rj d t q).kind = 3 ∨ (Rj d t q).kind = 4) ∧ (Rj d t q).entries = []) : RM P (T + t) m (Rj d t q) := by
 have h1 := h.term
 obtain ⟨hk, he⟩ := hk
 have hk : q.kind = 3 ∨ q.kind = 4 := hk
 have he : q.entries = [] := he
 have hE := h.ents
 rw [he] at hE
 refine { h with term := ?_, idx := fun e => ?_, lt := fun e => ?_, com := fun e => ?_, ents := ?_, conf := ?_ }
 ·show m.term = q.term - t + (T + t); omega
 ·have := h.idx e
  show m.index = q.index - d + (P.length : Nat)
  rw [hP]; omega
 ·have e3 : q.kind = 3 := by
   have e : q.kind = 1 ∨ q.kind = 3 := e
   omega
  have := h.lt (.inr e3)
  show m.logTerm = (if q.kind = 3 then q.logTerm - t else q.logTerm) + (T + t)
  rw [if_pos e3]; omega
 ·have := h.com e
  show m.commit = (if q.kind = 3 then q.commit - d else q.commit) + (P.length : Nat)
  rw [if_pos (show q.kind = 3 from e), hP]; omega
 ·show m.entries = q.entries.map _
  rw [hE, he]; rfl
 ·intro e hm
  have hm : e ∈ q.entries := hm
  rw [he] at hm; cases hm
theorem Yr.imp {α β γ : Type} {R : α → β → Prop} {S : α → γ → Prop} {f : β → γ} {xs : List α} {ys : List β} (h : Yr R xs ys) (hi : ∀ x, ∀ y ∈ ys, R x y → S x (f y)) : Yr S xs (ys.map f) := by
 induction h with
 | nil => exact .nil
 | cons h _ ih => exact .cons (hi _ _ List.mem_cons_self h) (ih fun x y hy => hi x y (List.mem_cons_of_mem _ hy))
theorem WD (a b : List En) : Xy (a ++ b) = Xy a + Xy b := by
 unfold Xy
 rw [List.filter_append, List.length_append]
theorem WB (f : En → En) (hf : ∀ e, (f e).cmd = e.cmd) (l : List En) : Xy (l.map f) = Xy l := by
 unfold Xy
 rw [List.filter_map, List.length_map]
 congr 1
 refine List.filter_congr fun e _ => ?_
 show (!(f e).cmd.isEmpty) = _
 rw [hf]
theorem Rs.n_map (s : Rs) (f : Nd → Nd) {i : Nat} (hi : i < s.ns.length) : (s.ns.map f).getD i default = f (s.n i) := by
 unfold Rs.n
 simp [List.getD_eq_getElem?_getD, hi]
theorem BL (hF : Fr pre T) {s : Rs} {N : Nat → Nd} {way : List Ms} (sl : s.ns.length = 3) (rn : ∀ i, i < 3 → RN pre T (N i) (s.n i)) (rm : Yr (RM pre T) way s.way)
  (hal : (s.n 1).log = (s.n 0).log ∧ (s.n 2).log = (s.n 0).log) (hde : ∀ n ∈ s.ns, n.mtch.d = 0 ∧ n.mtch.e = 0) (hc : MC s ∈ DO) (hpos : ∀ e ∈ (N 0).log, 0 ≤ e.term) :
  ∃ pre' T', Fr pre' T' ∧ (∀ i, i < 3 → RN pre' T' (N i) ((MC s).n i)) ∧ Yr (RM pre' T') way (MC s).way ∧ Xy pre' + Xy ((MC s).n 0).log = Xy pre + Xy (s.n 0).log := by
 obtain ⟨d, hd⟩ : ∃ d, d = (s.n 0).log.length - 2 := ⟨_, rfl⟩
 obtain ⟨t, ht⟩ : ∃ t, t = if d = 0 then 0 else ((s.n 0).log.getD (d - 1) default).term := ⟨_, rfl⟩
 obtain ⟨c, hcs⟩ : ∃ c, c = MC s := ⟨_, rfl⟩
 have hok := List.all_eq_true.1 Be _ hc
 unfold okC at hok
 simp only [Bool.and_eq_true, List.all_eq_true, decide_eq_true_eq] at hok
 obtain ⟨k1, k2, k3⟩ := hok
 have e0 : MC s = { s with ns := s.ns.map (U6 d t), way := s.way.map (Rj d t), pd := default } := by
  unfold MC
  simp only
  rw [← hd, ← ht]
 rw [e0] at k1 k2 ⊢
 simp only at k1 k2
 have hmem : ∀ i, i < 3 → s.n i ∈ s.ns := fun i hi => by
  unfold Rs.n
  rw [List.getD_eq_getElem?_getD, List.getElem?_eq_getElem (by omega), Option.getD_some]
  exact List.getElem_mem _
 have k1' := fun i (hi : i < 3) => k1 _ (List.mem_map_of_mem (hmem i hi))
 obtain ⟨L, hL⟩ : ∃ L, L = (s.n 0).log.take d := ⟨_, rfl⟩
 have hlog : ∀ i, i < 3 → (s.n i).log = (s.n 0).log := fun i hi => by
  have : i = 0 ∨ i = 1 ∨ i = 2 := by omega
  rcases this with rfl | rfl | rfl
  ·rfl
  ·exact hal.1
  ·exact hal.2
 have hdl : L.length = d := by rw [hL, List.length_take]; omega
 have hPl : (pre ++ L.map (shE T)).length = pre.length + d := by rw [List.length_append, List.length_map, hdl]
 refine ⟨pre ++ L.map (shE T), T + t, ⟨?_, ?_, ?_⟩, fun i hi => ?_, ?_, ?_⟩
 ·intro e he
  rcases List.mem_append.1 he with he | he
  ·exact hF.c e he
  ·obtain ⟨e', h1, rfl⟩ := List.mem_map.1 he
   rw [hL] at h1
   exact (rn 0 (by omega)).conf e' (List.mem_of_mem_take h1)
 ·by_cases hd0 : d = 0
  ·have hL0 : L = [] := List.length_eq_zero_iff.1 (by omega)
   rw [ht, if_pos hd0, hL0, Int.add_zero, List.map_nil, List.append_nil]
   exact hF.t
  ·unfold Xe
   simp only
   rw [if_pos (by rw [hPl]; omega), hPl, show (((pre.length + d : Nat) : Int) - 0 - 1).toNat = pre.length + (d - 1) by omega, Wj (by omega), ht, if_neg hd0]
   show (L.getD (d - 1) default).term + T = _
   rw [hL]
   simp only [List.getD_eq_getElem?_getD, List.getElem?_take]
   rw [if_pos (by omega)]
   omega
 ·by_cases hd0 : d = 0
  ·rw [ht, if_pos hd0, Int.add_zero]; exact hF.t0
  ·rw [ht, if_neg hd0]
   have hd1 : d - 1 < (s.n 0).log.length := by omega
   have := hpos (shE T ((s.n 0).log.getD (d - 1) default)) (by
    rw [(rn 0 (by omega)).log]
    refine List.mem_append_right _ (List.mem_map_of_mem ?_)
    rw [List.getD_eq_getElem?_getD, List.getElem?_eq_getElem hd1, Option.getD_some]
    exact List.getElem_mem _)
   have : 0 ≤ ((s.n 0).log.getD (d - 1) default).term + T := this
   omega
 ·obtain ⟨⟨a1, a2⟩, a3, a4⟩ := k1' i hi
  show RN _ _ _ ((s.ns.map (U6 d t)).getD i default)
  rw [Rs.n_map s _ (by omega)]
  exact (rn i hi).can (by rw [hlog i hi, hL]) hdl a1 a2 a3 (hde _ (hmem i hi))
 ·exact rm.imp fun x y hy h => h.can hPl (k2 _ (List.mem_map_of_mem hy))
 ·show _ + Xy ((s.ns.map (U6 d t)).getD 0 default).log = _
  rw [Rs.n_map s _ (by omega), WD, WB (shE T) (fun _ => rfl)]
  show _ + Xy (((s.n 0).log.drop d).map fun e => { e with term := e.term - t }) = _
  rw [WB (fun e => { e with term := e.term - t }) (fun _ => rfl), Nat.add_assoc, ← WD, hL, List.take_append_drop]
end
end Go.Proofs.YtjbokbikkcfjjaaGreat
namespace Go.Cap
section
variable {K : Ctx} {P : Program} {t : Env} {H : Qc} {dst : Option Tmp} {tp : TypeId} {pos : String} {aft : Array Edge} {g : Option (Nat × Bool)} {N : Env → Qc → Prop} {ty ty' : TypeId}
theorem Vn {x y : Operand} {p : Option Addr} {n c : Nat} {f : Bool} {dy : T} {d : T} {by_ : Nat} (hx : t.ev x = .v (.slice p n c)) (hy : t.ev y = dy) (hyl : Le dy (.sl f [])) [hz : QL P ty d by_] (hs : QR P ty' = true) (hc1 : n ≤ c) :
  POp P t H ⟨dst, .call ⟨.builtin .append, #[x, y], #[ty, ty']⟩, tp, pos, aft, g⟩ (.v (.slice p n c)) :=
 POp.run fun S w a hw _ hr => by
  have h1 := hr x (by simp [Op.operands, Call.operands]); rw [hx] at h1
  have h2 := hr y (by simp [Op.operands, Call.operands]); rw [hy] at h2
  replace h2 := hyl _ _ _ h2
  obtain ⟨e, i, z, hu, hi, hzz, hsz, hp, rfl, hby⟩ := Yx hz.h
  obtain ⟨e', _, hu', _⟩ := YU hs
  have hl := Xl z
  have hk0 : 0 < (T.ofVal z).cells.length := by omega
  have e1 : (execOp a.eval ⟨dst, .call ⟨.builtin .append, #[x, y], #[ty, ty']⟩, tp, pos, aft, g⟩).run P w = ((Builtin.append_ #[ty, ty'] tp #[a.eval x, a.eval y]).run P w).andThen fun v w' => .ok (.value v) w' := by
   simp [execOp, resolve, invoke, builtin]
  rw [e1, h1.v_eq]
  have hlen := Zd (P := P) h2
  obtain ⟨us, hus, hrel, hul⟩ := Yk (P := P) h2 (fun x hx => absurd hx (by simp)) hk0 0 (Nat.zero_le _)
  have hus0 : us = [] := List.length_eq_zero_iff.1 (by omega)
  subst hus0
  rw [Jg hu hu' hi hlen hc1 (by rw [hsz, ← hl]; exact hus)]
  exact ⟨_, w, S, rfl, QN.refl _ hw, .v _⟩
theorem OSl.capV {e : TypeId} {k : Nat} {xs : List T} {v : Value} {Hs : Qc} (h : OSl e k xs v Hs) : ∃ p c, v = .slice p xs.length c ∧ xs.length ≤ c := by
 obtain ⟨p, c, rfl⟩ := h.len
 exact ⟨p, c, rfl, h.cap⟩
theorem Wv {x y : Operand} {e : TypeId} {k : Nat} {xs ys : List T} {v : Value} {A B Hs : Qc} {f : Bool} {dy d : T} {by_ : Nat} [hz : QL K.P ty d by_] (ho : OSl e k xs v Hs) (hH : H = A ++ (Hs ++ B)) (hx : t.ev x = .v v) (hy : t.ev y = dy) (hyl : Le dy (.sl f ys))
  (hkd : d.cells.length = k) (hk0 : Xk K.P ty = e) (hs : QR K.P ty' = true) (hkx : ∀ x ∈ xs, x.cells.length = k) (hky : ∀ x ∈ ys, x.cells.length = k) (hyleaf : ∀ x ∈ ys, QG x.cells = true) (hb : (xs.length + ys.length) * by_ ≤ 140737488355328) (hm : xs.length + ys.length ≤ 9223372036854775807)
  {kd : Tmp} (hd : Nat.blt kd K.n = true) (h : ∀ v' Hs', OSl e k (xs ++ ys) v' Hs' → N ((kd, .v v') :: t) (A ++ (Hs' ++ B))) : EOp K t H ⟨some kd, .call ⟨.builtin .append, #[x, y], #[ty, ty']⟩, tp, pos, aft, g⟩ N := by
 cases ys with
 | nil =>
  obtain ⟨p, c, rfl, hc⟩ := ho.capV
  have := h _ _ (by rw [List.append_nil]; exact ho)
  rw [← hH] at this
  exact EOp.of_pop (Vn hx hy hyl hs hc) hd this
 | cons y0 ys => exact YR ho hH hx hy hyl (by simp) hkd hk0 hs hkx hky hyleaf hb hm hd h
variable {ops : Array Oper} {i : Nat} {l : List Oper} {kd : Tmp}
theorem LE {x y : Operand} {e : TypeId} {k : Nat} {xs ys : List T} {v : Value} {A B Hs : Qc} {f : Bool} {dy d : T} {by_ : Nat} [hz : QL K.P ty d by_] (ho : OSl e k xs v Hs) (hkx : ∀ x ∈ xs, x.cells.length = k)
  (h : ∀ v' Hs', OSl e k (xs ++ ys) v' Hs' → Qf K ops (i + 1) l ((kd, .v v') :: t) (A ++ (Hs' ++ B)) N) (hH : H = A ++ (Hs ++ B) := by rfl) (hx : t.ev x = .v v := by exact zl) (hy : t.ev y = dy := by exact zl) (hyl : Le dy (.sl f ys) := by exact zL)
  (hkd : d.cells.length = k := by rfl) (hk0 : Xk K.P ty = e := by rfl) (hs : QR K.P ty' = true := by rfl) (hky : ∀ x ∈ ys, x.cells.length = k := by exact zk) (hyleaf : ∀ x ∈ ys, QG x.cells = true := by exact zf)
  (hb : (xs.length + ys.length) * by_ ≤ 140737488355328 := by exact zo) (hm : xs.length + ys.length ≤ 9223372036854775807 := by exact zo) (hd : Nat.blt kd K.n = true := by rfl) :
  Qf K ops i (⟨some kd, .call ⟨.builtin .append, #[x, y], #[ty, ty']⟩, tp, pos, aft, none⟩ :: l) t H N := YG (Wv ho hH hx hy hyl hkd hk0 hs hkx hky hyleaf hb hm hd h)
theorem Vp {x y : Operand} {n : Nat} {k : IntKind} {d : T} {by_ : Nat} (hx : t.ev x = .v (.slice none 0 0)) (hy : t.ev y = .v (.int .i64 n)) [hz : QL K.P ty d by_] (hs : P.underlying ty' = some (.int k)) (hP : P = K.P) (h0 : 0 < n) (hb : n * by_ ≤ 140737488355328) (hm : n ≤ 9223372036854775807)
  {kd : Tmp} (hd : Nat.blt kd K.n = true)
  (h : ∀ b c, (∀ c ∈ keys H, ¬ c = b) → n ≤ c → N ((kd, .v (.slice (some ⟨b, 0, none⟩) n c)) :: t) ((b, ⟨Xk K.P ty, [], c * d.cells.length⟩) :: H)) :
  EOp K t H ⟨some kd, .call ⟨.builtin .append, #[x, y], #[ty, ty']⟩, tp, pos, aft, g⟩ N := by
 subst hP
 refine EOp.of_w (fun c e => by cases e) ?_
 intro a w ⟨S, hr⟩ Kc Q hk
 have h1 := hr.env.ev x; rw [hx] at h1
 have h2 := hr.env.ev y; rw [hy] at h2
 obtain ⟨e, i, z, hu, hi, hzz, hsz, hp, rfl, hby⟩ := Yx hz.h
 have hl := Xl z
 have hee : Xk K.P ty = e := by unfold Xk; rw [hu]
 have e1 : (execOp a.eval ⟨some kd, .call ⟨.builtin .append, #[x, y], #[ty, ty']⟩, tp, pos, aft, g⟩).run K.P w = ((Builtin.append_ #[ty, ty'] tp #[a.eval x, a.eval y]).run K.P w).andThen fun v w' => .ok (.value v) w' := by
  simp [execOp, resolve, invoke, builtin]
 have hrun : (Builtin.append_ #[ty, ty'] tp #[.slice none 0 0, .int .i64 n]).run K.P w = .ok (.slice (some ⟨w.heap.size, 0, none⟩) n (grownCap w n 0 e))
   (w.drew.alloc (.cells (Builtin.zeroCells z.cells n ++ Builtin.zeroCells z.cells (grownCap w n 0 e - n)) e)) := by
  have hw64 : IntKind.i64.wrap (n : Int) = n := by simp [IntKind.wrap, IntKind.bits, IntKind.signed]; omega
  have h1' : ¬ (n = 0) := by omega
  have hz0 : 0 < z.cells.size := by omega
  have h48 : ¬ (281474976710656 < (n : Int) * (i.bytes : Int)) := by
   have : n * i.bytes ≤ 140737488355328 := by rw [hby]; exact hb
   have h3 : ((n * i.bytes : Nat) : Int) = (n : Int) * (i.bytes : Int) := by push_cast; rfl
   omega
  have h48' : ¬ (281474976710656 < Builtin.nextslicecap n 0 * i.bytes) := by
   unfold Builtin.nextslicecap
   rw [if_pos (by omega)]
   have : n * i.bytes ≤ 140737488355328 := by rw [hby]; exact hb
   omega
  have h63 : ¬ (9223372036854775807 < (n : Int)) := by omega
  have hsz0 : ¬ (i.size = 0) := by omega
  have hneg : ¬ ((n : Int) < 0) := by omega
  simp [Builtin.append_, run_underlying hu, run_underlying hs, sizeOf, typeInfo, zeroValue, asInt, asIntOf, hi, hzz, hw64, h1', h48, h48', h63, hsz0, hneg, Question.forced, Builtin.firstCells, newRow, grownCap]
  intro h; exact absurd h (by have : 0 < n * i.size := Nat.mul_pos h0 (by omega); omega)
 unfold Oper.wp
 rw [e1, h1.v_eq, h2.v_eq, hrun]
 have hcap : n ≤ grownCap w n 0 e := Nat.le_add_right _ _
 have hrd : R1 K t H a w.drew S := ⟨hr.size, hr.defers.step Xu (fun _ _ h _ => h) (Nat.le_refl _), hr.step.trans (X5 hr.wf []) (by simp), hr.own.step (X5 hr.wf []) hr.wf (by simp) (by simp), hr.mine, hr.env.mono Xu⟩
 have hcm : n * (T.ofVal z).cells.length ≤ grownCap w n 0 e * (T.ofVal z).cells.length := Nat.mul_le_mul_right _ hcap
 have hzs : (grownCap w n 0 e - n) * (T.ofVal z).cells.length = grownCap w n 0 e * (T.ofVal z).cells.length - n * (T.ofVal z).cells.length := Nat.sub_mul _ _ _
 have hfr := hrd.fresh (dst := some kd) (d := .v (.slice (some ⟨w.heap.size, 0, none⟩) n (grownCap w n 0 e)))
  (k := ⟨Xk K.P ty, [], grownCap w n 0 e * (T.ofVal z).cells.length⟩)
  (cs := Builtin.zeroCells z.cells n ++ Builtin.zeroCells z.cells (grownCap w n 0 e - n))
  (by simp only [Array.size_append, Zj, ← hl]; omega) (by simp) (by simp; exact .nil) hd (.v _)
 rw [hee] at hfr
 have hh := h w.heap.size _ (Yw hr) hcap
 rw [hee] at hh
 exact hk _ _ _ _ hh ⟨S, hfr⟩
theorem TE {x y : Operand} {n : Nat} {k : IntKind} {d : T} {by_ : Nat} [hz : QL K.P ty d by_] (h : ∀ b c, (∀ c ∈ keys H, ¬ c = b) → n ≤ c → Qf K ops (i + 1) l ((kd, .v (.slice (some ⟨b, 0, none⟩) n c)) :: t) ((b, ⟨Xk K.P ty, [], c * d.cells.length⟩) :: H) N) (hx : t.ev x = .v (.slice none 0 0) := by exact zl) (hy : t.ev y = .v (.int .i64 n) := by exact zl)
  (hs : K.P.underlying ty' = some (.int k) := by rfl) (h0 : 0 < n := by exact zo) (hb : n * by_ ≤ 140737488355328 := by exact zo) (hm : n ≤ 9223372036854775807 := by exact zo) (hd : Nat.blt kd K.n = true := by rfl) :
  Qf K ops i (⟨some kd, .call ⟨.builtin .append, #[x, y], #[ty, ty']⟩, tp, pos, aft, none⟩ :: l) t H N := YG (Vp hx hy hs rfl h0 hb hm hd h)
theorem B9 {x : Operand} {p : Option Addr} {n c : Nat} {ats : Array TypeId} (hx : t.ev x = .v (.slice p n c) := by exact zl) (ha : ats = #[ty] := by rfl) (hs : QR P ty = true := by rfl) : POp P t H ⟨dst, .call ⟨.builtin .cap, #[x], ats⟩, tp, pos, aft, g⟩ (.v (.int .i64 c)) :=
 POp.still fun S w a _ _ hr => by
  have h1 := hr x (by simp [Op.operands, Call.operands]); rw [hx] at h1
  subst ha
  refine ⟨_, ?_, .v _⟩
  obtain ⟨e, _, hu, _⟩ := YU hs
  simp [execOp, resolve, invoke, builtin, h1.v_eq, Builtin.cap_, run_underlying hu, goInt]
theorem Og (w : World) (cs : Array Value) (e : TypeId) : (markStringish ⟨w.heap.size, 0, none⟩).run P (w.alloc (.cells cs e)) = .ok () ((w.alloc (.cells cs e)).freeze ⟨w.heap.size, cs.size, none⟩ 1) := by
 have h : (w.alloc (.cells cs e)).shape? w.heap.size = some (e, cs.size) := by
  unfold World.shape?
  rw [YZ]
 simp [markStringish, h]
theorem Dx (w : World) (cs : Array Value) (e : TypeId) (b : Nat) : ((w.alloc (.cells cs e)).freeze ⟨w.heap.size, cs.size, none⟩ 1).heap[b]? = if b = w.heap.size then some (.cells cs e (cs.size, cs.size + 1)) else w.heap[b]? := by
 unfold World.freeze
 rw [if_neg (by simp)]
 simp only [Array.getElem?_modify]
 by_cases hb : b = w.heap.size
 ·subst hb
  rw [if_pos rfl, YZ]
  simp
 ·rw [if_neg (fun h => hb h.symm), if_neg hb]
  by_cases h : b < w.heap.size
  ·exact X0 w _ h
  ·rw [Array.getElem?_eq_none (by simp; omega), Array.getElem?_eq_none (by omega)]
theorem Lb {S : Nat → Prop} {w : World} : ∀ (l : List UInt8), Qr S w (l.map eb) (l.map fun b => Value.int .u8 b.toNat)
 | [] => .nil
 | b :: l => .cons _ _ _ _ (.v _) (Lb l)
theorem GK : ∀ (l : List UInt8), (l.map fun b => Value.int .u8 b.toNat).flatMap (fun v => v.cells.toList) = l.map fun b => Value.int .u8 b.toNat
 | [] => rfl
 | b :: l => by rw [List.map_cons, List.flatMap_cons, GK l]; rfl
theorem Ox {x : Operand} {l : List UInt8} (hx : t.ev x = .v (.string (bs l))) (h1 : Lr P ty = true) (h2 : Zf P ty' = true) : POp P t H ⟨dst, .convert ty ty' x, tp, pos, aft, g⟩ (.sl false (l.map eb)) :=
 POp.run fun S w a hw _ hr => by
  have hv := hr x (by simp [Op.operands]); rw [hx] at hv
  obtain ⟨e, he, he2⟩ := DT h2
  have hs := RJ h1
  have hlen : (bs l).size = l.length := by simp [bs, ByteArray.size]
  have hsz : (((bs l).data.map fun b => Value.int .u8 b.toNat) ++ Array.replicate (grownCap w l.length 0 e - l.length) (Value.int .u8 0)).size = grownCap w l.length 0 e := by
   have h1 : l.length ≤ grownCap w l.length 0 e := Nat.le_add_right _ _
   have h2 : (bs l).data.size = l.length := hlen
   simp [h2]; omega
  have hl0 : (((bs l).data.map fun b => Value.int .u8 b.toNat) ++ Array.replicate (grownCap w l.length 0 e - l.length) (Value.int .u8 0)).toList = (l.map fun b => Value.int .u8 b.toNat) ++ List.replicate (grownCap w l.length 0 e - l.length) (Value.int .u8 0) := by
   simp [bs]
  have hcap : l.length ≤ grownCap w l.length 0 e := Nat.le_add_right _ _
  have hrun : ∀ cs, cs = ((bs l).data.map fun b => Value.int .u8 b.toNat) ++ Array.replicate (grownCap w l.length 0 e - l.length) (Value.int .u8 0) → (Conv.stringToBytes e (bs l)).run P w = .ok (.slice (some ⟨w.heap.size, 0, none⟩) l.length (grownCap w l.length 0 e)) ((w.drew.alloc (.cells cs e)).freeze ⟨w.drew.heap.size, cs.size, none⟩ 1) := by
   intro cs hcs
   have hm := Og (P := P) w.drew cs e
   rw [show w.drew.heap.size = w.heap.size from rfl] at hm ⊢
   have hcut : (choose (.appendCap l.length 0 e)).run P w = .ok (grownCap w l.length 0 e) w.drew := by simp [Question.forced, grownCap]
   have hnew : (newRow e cs).run P w.drew = .ok ⟨w.heap.size, 0, none⟩ (w.drew.alloc (.cells cs e)) := by simp [newRow]
   have hm' : (markStringish ⟨w.heap.size, 0, none⟩).run P (w.drew.alloc (.cells cs e)) = .ok () ((w.drew.alloc (.cells cs e)).freeze ⟨w.heap.size, cs.size, none⟩ 1) := hm
   unfold Conv.stringToBytes
   rw [Sem.run_bind, hlen, hcut, Result.andThen_ok]
   show ((do let a ← newRow e (((bs l).data.map fun b => Value.int .u8 b.toNat) ++ Array.replicate (grownCap w l.length 0 e - (bs l).size) (Value.int .u8 0)); markStringish a; pure (Value.slice (some a) (bs l).size (grownCap w l.length 0 e)) : Sem Value)).run P w.drew = _
   rw [hlen, ← hcs]
   rw [Sem.run_bind, hnew, Result.andThen_ok, Sem.run_bind, hm', Result.andThen_ok]
   rfl
  generalize ((bs l).data.map fun b => Value.int .u8 b.toNat) ++ Array.replicate (grownCap w l.length 0 e - l.length) (Value.int .u8 0) = cs at hsz hl0 hrun
  have hrun := hrun cs rfl
  have hh := Dx w.drew cs e
  have hnew := (hh w.drew.heap.size).trans (if_pos rfl)
  have hold : ∀ b, b < w.heap.size → ((w.drew.alloc (.cells cs e)).freeze ⟨w.drew.heap.size, cs.size, none⟩ 1).heap[b]? = w.heap[b]? := fun b hb => (hh b).trans (if_neg (by have : w.drew.heap.size = w.heap.size := rfl; omega))
  have hfs : ((w.drew.alloc (.cells cs e)).freeze ⟨w.drew.heap.size, cs.size, none⟩ 1).heap.size = w.heap.size + 1 := by
   unfold World.freeze
   rw [if_neg (by simp)]
   simp only [Array.size_modify]
   simp
  have hst : QN [] S w (ZH S w) ((w.drew.alloc (.cells cs e)).freeze ⟨w.drew.heap.size, cs.size, none⟩ 1) :=
   ⟨rfl, rfl, rfl, by omega, fun b hb _ => hold b hb, fun b hb => .inl hb, fun b hb => hb.elim .inl fun e => .inr (.inl (Nat.le_of_eq e.symm)), fun b hb => by
    rw [hfs]; rcases hb with hb | hb
    ·exact Nat.lt_succ_of_lt (hw b hb)
    ·omega⟩
  refine ⟨.slice (some ⟨w.heap.size, 0, none⟩) l.length (grownCap w l.length 0 e), _, ZH S w, ?_, hst, ?_⟩
  rotate_left
  ·have := Rel.sl (S := ZH S w) (w := (w.drew.alloc (.cells cs e)).freeze ⟨w.drew.heap.size, cs.size, none⟩ 1) false (l.map eb) w.heap.size 0 (grownCap w l.length 0 e) (l.map fun b => Value.int .u8 b.toNat) 1 cs e _ (.inr rfl) hnew (Lb l)
    ⟨by simp [Value.cells], by
     rw [hl0]
     simp only [List.drop_zero, List.length_map, Nat.mul_one]
     rw [List.take_left' (by simp)]
     exact (GK l).symm⟩ (fun h => by cases h) (by simpa using hcap)
   simpa using this
  ·have hcv : (convert ty ty' (a.eval x)).run P w = .ok (.slice (some ⟨w.heap.size, 0, none⟩) l.length (grownCap w l.length 0 e)) ((w.drew.alloc (.cells cs e)).freeze ⟨w.drew.heap.size, cs.size, none⟩ 1) := by
    unfold convert
    rw [hv.v_eq]
    simp [run_underlying he, run_underlying hs, run_underlying he2, hrun]
   simp [execOp, hcv]
theorem TV {x : Operand} {l : List UInt8} (hx : t.ev x = .v (.string (bs l)) := by exact zl) (h1 : Lr P ty = true := by rfl) (h2 : Zf P ty' = true := by rfl) : POp P t H ⟨dst, .convert ty ty' x, tp, pos, aft, g⟩ (.sl false (l.map eb)) := Ox hx h1 h2
end
section
variable {P : Program}
def Lv (K : Ctx) (Φ : T → Qc → Prop) (e : Ending) (w' : World) : Prop :=
 ∃ u S' r H', e = .returned u ∧ Φ r H' ∧ Rel S' w' r u ∧ Own S' w' H' ∧ QN K.F0 K.S0 K.w0 S' w' ∧ ∀ b ∈ keys H', b ∈ K.F0 ∨ K.w0.heap.size ≤ b
def WZ (K : Ctx) (fn : Func) (c : Code) (t : Env) (H : Qc) (Φ : T → Qc → Prop) : Prop :=
 ∀ a w, R K t H a w → c.wpIn (RF K.rd) 0 K.P (bodyPostM (RF K.rd) 0 K.P fn (Lv K Φ)) a w
theorem JW {f : FuncId} {fn : Func} {c : Code} {args : List T} {H : Qc} {Φ : T → Qc → Prop} (hf : P.funcs[f]? = some fn) (hb : fn.body = some c)
  (hn : Nat.ble args.length fn.ntmps = true)
  (h : ∀ (S0 : Nat → Prop) (w0 : World), Wf S0 w0 → WZ ⟨P, fn.ntmps, S0, w0, keys H, none, Ju.none, w0.heap.size, []⟩ fn c ((List.range args.length).zip args) H Φ) : FnH P f args H Φ := by
 intro S w vs hw ho hr
 have hl := hr.length
 have hn' : args.length ≤ fn.ntmps := Nat.le_of_ble_eq_true hn
 refine (callsIn_wide (n := 0)).1 (callsIn_of_wp_marks hf hb trivial ?_)
 exact h S w hw { tmps := vs.toArray ++ Array.replicate (fn.ntmps - vs.toArray.size) undef, defers := [] } w
  ⟨S, by simp; omega, ⟨Nat.le_refl _, Mks.zero, fun _ _ => trivial⟩, QN.refl _ hw, ho, fun b hb => .inl hb, UP hr fn.ntmps⟩
section
variable {K : Ctx} {fn : Func} {t : Env} {H : Qc} {Φ : T → Qc → Prop} {x y : Code}
theorem JC (h : Sim K x t H (fun e t' H' => e = .normal ∧ WZ K fn y t' H' Φ)) : WZ K fn (.seq x y) t H Φ := by
 intro a w hr
 refine wpIn_seq (wpIn_mono (h a w hr) ?_)
 rintro e a' w' ⟨t', H', ⟨rfl, hp⟩, hr'⟩
 exact hp a' w' hr'
def Z9 (K : Ctx) (fn : Func) (ops : Array Oper) (y : Code) (Φ : T → Qc → Prop) (i : Nat) (l : List Oper) (t : Env) (H : Qc) : Prop :=
 (∀ j, l[j]? = ops[i + j]?) → ∀ a w, R K t H a w → wpOpsIn (RF K.rd) 0 K.P ops (Exit.then (y.wpIn (RF K.rd) 0 K.P (bodyPostM (RF K.rd) 0 K.P fn (Lv K Φ))) (bodyPostM (RF K.rd) 0 K.P fn (Lv K Φ))) (List.range' i l.length) a w
theorem ZK {id : Nat} {ops : Array Oper} (h : Z9 K fn ops y Φ 0 ops.toList t H) : WZ K fn (.seq (.region id ops false) y) t H Φ := by
 intro a w hr
 refine wpIn_seq (wpIn_region ?_)
 have := h (fun j => by simp) a w hr
 rw [List.range_eq_range']
 simpa using this
theorem d_e {ops : Array Oper} {i : Nat} {o : Oper} {l : List Oper} (hg : o.guard = none) (h : EOp K t H o (fun t' H' => Z9 K fn ops y Φ (i + 1) l t' H')) : Z9 K fn ops y Φ i (o :: l) t H := by
 intro hl a w hr
 rw [Jz]
 unfold wpOpIn
 simp only [WH hl, Q7 hg a, if_true]
 exact h a w hr _ _ fun t' H' a' w' hn hr' => hn (US hl) a' w' hr'
theorem d_s {ops : Array Oper} {i kd : Nat} {op : Op} {tp : TypeId} {pos : String} {aft : Array Edge} {l : List Oper} {d : T} (hp : POp K.P t H ⟨some kd, op, tp, pos, aft, none⟩ d) (h : Z9 K fn ops y Φ (i + 1) l ((kd, d) :: t) H) (hd : Nat.blt kd K.n = true := by rfl) :
  Z9 K fn ops y Φ i (⟨some kd, op, tp, pos, aft, none⟩ :: l) t H := d_e rfl (EOp.of_pop hp hd h)
theorem MV {S : Nat → Prop} {w : World} : ∀ {vs ys : List Value}, Qr S w (vs.map T.v) ys → ys = vs
 | [], _, h => by cases h; rfl
 | v :: vs, _, h => by
  cases h with
  | cons _ y _ ys h1 h2 => rw [MV h2, h1.v_eq]
theorem VC {ops : Array Oper} {i : Nat} {x : Operand} {tp : TypeId} {pos : String} {aft : Array Edge} {f : FuncId} (vs : List Value) (h : WZ { K with D := [⟨.fn (.func f) vs.toArray, #[]⟩] } fn y t H Φ) (hD : K.D = []) (hrd : K.rd = none)
  (hx : t.ev x = .clo f [] (vs.map T.v)) : Z9 K fn ops y Φ i [⟨none, .defer ⟨.value x, #[], #[]⟩, tp, pos, aft, none⟩] t H := by
 intro hl a w hr
 rw [Jz]
 unfold wpOpIn
 simp only [WH hl, Q7 (o := ⟨none, .defer ⟨.value x, #[], #[]⟩, tp, pos, aft, none⟩) rfl a, if_true]
 obtain ⟨S, hr1⟩ := hr
 have hv : a.eval x = .func (.func f) #[] vs.toArray := by
  have h1 := hr1.env.ev x
  rw [hx] at h1
  generalize a.eval x = z at h1
  cases h1 with
  | clo _ _ _ us ws h2 h3 =>
   cases h2
   rw [MV h3]
 have he : (execOp a.eval ⟨none, .defer ⟨.value x, #[], #[]⟩, tp, pos, aft, none⟩).run K.P w = .ok (.defer ⟨.fn (.func f) vs.toArray, #[]⟩) w := by
  show (do let d ← resolve a.eval ⟨.value x, #[], #[]⟩ tp; pure (.defer d) : Sem Next).run K.P w = _
  unfold resolve
  simp [hv, Deferred.ofValue]
 refine ⟨fun _ _ => trivial, ?_⟩
 rw [show (RF K.rd).round = none from hrd, Oper.semAt_none, he, Oper.uponIn_defer]
 show wpOpsIn _ _ _ _ _ (List.range' (i + 1) 0) _ _
 refine h _ _ ⟨S, hr1.size, ⟨hr1.defers.low, ?_, hr1.defers.flags⟩, hr1.step, hr1.own, hr1.mine, hr1.env⟩
 obtain ⟨ms, ms0, h0, h1, h2⟩ := hr1.defers.marks
 rw [hD, List.nil_append] at h0
 refine ⟨[], ms ++ ms0, ?_, by simpa using h1, by simpa using h2⟩
 show (⟨.fn (.func f) vs.toArray, #[]⟩ : Deferred) :: a.defers = _
 rw [h0]
 rfl
theorem ZR {fn : Func} {tmps : Array Value} {Q : Ending → World → Prop} {rest : List Deferred} {rd : Option Nat} : ∀ (ds : List Deferred) (w : World), ds.Nodup → (∀ d ∈ ds, ∃ D, d = ⟨.collected D, #[]⟩ ∧ w.heap[D]? = some (.deferred (some []))) →
  (∀ w', w'.os = w.os → w'.tape = w.tape → w'.output = w.output → w'.heap.size = w.heap.size → (∀ b, (⟨.collected b, #[]⟩ : Deferred) ∉ ds → w'.heap[b]? = w.heap[b]?) → LeavesInM (RF rd) 0 P fn tmps Q rest .returning w') →
  LeavesInM (RF rd) 0 P fn tmps Q (ds ++ rest) .returning w
 | [], w, _, _, h => h w rfl rfl rfl rfl fun _ _ => rfl
 | d :: ds, w, hn, hm, h => by
  obtain ⟨D, rfl, hk⟩ := hm d List.mem_cons_self
  have hn' := List.nodup_cons.1 hn
  refine ⟨by simp, .inl ⟨D, w.putObj D (.deferred none), rfl, run_takeDeferred hk, ?_⟩⟩
  refine ZR ds _ hn'.2 (fun e he => ?_) fun w' h1 h2 h3 h4 h5 => ?_
  ·obtain ⟨E, rfl, hke⟩ := hm e (List.mem_cons_of_mem _ he)
   refine ⟨E, rfl, ?_⟩
   rw [World.putObj_heap_other (fun e => hn'.1 (by rw [← e]; exact he))]; exact hke
  ·refine h w' (h1.trans rfl) (h2.trans rfl) (h3.trans rfl) (by rw [h4]; simp) fun b hb => ?_
   rw [h5 b (fun hm => hb (List.mem_cons_of_mem _ hm)), World.putObj_heap_other (fun e => hb (by rw [e]; exact List.mem_cons_self))]
end
def DfH (P : Program) (f : FuncId) (vs : Array Value) (H : Qc) (Φ : Qc → Prop) : Prop :=
 ∀ (S : Nat → Prop) (w : World), Wf S w → Own S w H → CallsDIn (RF none) 0 P f vs .returning w fun e u' w' =>
  u' = .returning ∧ ∃ v S' H', e = .returned v ∧ Φ H' ∧ Own S' w' H' ∧ QN (keys H) S w S' w' ∧ ∀ b ∈ keys H', b ∈ keys H ∨ w.heap.size ≤ b
def TX (P : Program) (fn : Func) (f : FuncId) (vs : Array Value) (Φ : T → Qc → Prop) (e : Exit) (t : Env) (H : Qc) : Prop :=
 match e with
 | .normal | .ret => ∃ Φ1 : Qc → Prop, DfH P f vs H Φ1 ∧ ∀ H1, Φ1 H1 → ∃ ds r H2, YO P t H1 fn.results.toList ds ∧ Le (XW ds) r ∧ Φ r H2 ∧ ((keys H1).Nodup → Xr H1 H2)
 | _ => False
theorem Uu {K : Ctx} {fn : Func} {t : Env} {H : Qc} {Φ : T → Qc → Prop} {c : Code} {f : FuncId} {vs : Array Value} (hw0 : Wf K.S0 K.w0) (h : Sim K c t H (TX K.P fn f vs Φ)) (hf : QE K.P f = true := by kernel_rfl) (hD : K.D = [⟨.fn (.func f) vs, #[]⟩] := by rfl)
  (hrd : K.rd = none := by rfl) (hmb : K.mb = K.w0.heap.size := by rfl) : WZ K fn c t H Φ := by
 intro a w hr
 refine wpIn_mono (h a w hr) ?_
 rintro e a' w' ⟨t', H', hp, S', hr'⟩
 have fin : (∃ Φ1 : Qc → Prop, DfH K.P f vs H' Φ1 ∧ ∀ H1, Φ1 H1 → ∃ ds r H2, YO K.P t' H1 fn.results.toList ds ∧ Le (XW ds) r ∧ Φ r H2 ∧ ((keys H1).Nodup → Xr H1 H2)) → LeavesInM (RF K.rd) 0 K.P fn a'.tmps (Lv K Φ) a'.defers .returning w' := by
  rintro ⟨Φ1, hdf, hres⟩
  obtain ⟨ms, ms0, hds, hnd, hmk⟩ := hr'.defers.marks
  rw [hds, hD]
  obtain ⟨hn1, hn2, hdisj⟩ := List.nodup_append.1 hnd
  let B : Nat → Prop := fun b => (⟨.collected b, #[]⟩ : Deferred) ∈ ms ++ ms0
  have hB : ∀ b, B b → K.w0.heap.size ≤ b ∧ w'.heap[b]? = some (.deferred (some [])) := fun b hb => by
   obtain ⟨D, h0, h1, h2⟩ := hmk _ hb
   cases h0
   exact ⟨hmb ▸ h1, h2⟩
  have hBc : ∀ b, B b → ∀ cs ty fz, w'.heap[b]? ≠ some (.cells cs ty fz) := fun b hb cs ty fz => by rw [(hB b hb).2]; simp
  refine ZR ms w' hn1 (fun d hd => let ⟨D, h1, _, h3⟩ := hmk d (List.mem_append_left _ hd); ⟨D, h1, h3⟩) fun w2 e1 e2 e3 e4 e5 => ?_
  have e5' : ∀ b, ¬ B b → w2.heap[b]? = w'.heap[b]? := fun b hb => e5 b fun h => hb (List.mem_append_left _ h)
  have hm : ∀ b, (S' b ∧ ¬ B b) → (S' b ∧ ¬ B b) ∧ w2.heap[b]? = w'.heap[b]? := fun b hb => ⟨hb, e5' b hb.2⟩
  have henv2 : ZC (fun b => S' b ∧ ¬ B b) w2 t' a' := fun k => (Rel.shrink hBc (hr'.env k)).mono hm
  have hown2 : Own (fun b => S' b ∧ ¬ B b) w2 H' := ⟨hr'.own.nodup, fun b hb hS => hr'.own.apart b hb hS.1, fun p hp => by
   exact (hr'.own.has p hp).shrunk hBc (fun b hb o h2 h3 => by rw [(hB b hb).2] at h3; cases h3; cases h2) (fun hnb => e5' p.1 hnb) hm⟩
  have hst2 : QN K.F0 K.S0 K.w0 (fun b => S' b ∧ ¬ B b) w2 := ⟨e1.trans hr'.step.os, e2.trans hr'.step.tape, e3.trans hr'.step.output, by rw [e4]; exact hr'.step.size,
   fun b hb hn => (e5' b (fun hbm => absurd hb (Nat.not_lt.2 (hB b hbm).1))).trans (hr'.step.keep b hb hn), fun b hb => ⟨hr'.step.sub b hb, fun hbm => absurd (hw0 b hb) (Nat.not_lt.2 (hB b hbm).1)⟩, fun b hb => hr'.step.new b hb.1, fun b hb => by rw [e4]; exact hr'.step.wf b hb.1⟩
  refine ⟨by simp, .inr ⟨fun hh => Bool.noConfusion (show false = true from hh), .func f, vs, f, vs, rfl, ?_, fun _ _ => trivial, ?_⟩⟩
  ·show (callFunc f (#[] ++ vs)).run K.P w2 = _
   rw [Array.empty_append]
   exact Zo hf vs w2
  rw [hrd]
  refine CallsDIn.mono (hdf _ w2 hst2.wf hown2) ?_
  rintro e u' w3 ⟨rfl, v, S3, H1, rfl, hΦ1, hown3, hst3, hkeys⟩
  show LeavesInM (RF none) 0 K.P fn a'.tmps (Lv K Φ) ([] ++ ms0) .returning w3
  rw [List.nil_append]
  have hmk3 : ∀ d ∈ ms0, ∃ D, d = ⟨.collected D, #[]⟩ ∧ w3.heap[D]? = some (.deferred (some [])) := fun d hd => by
   obtain ⟨D, rfl, h1, h2⟩ := hmk d (List.mem_append_right _ hd)
   refine ⟨D, rfl, ?_⟩
   have h3 : w2.heap[D]? = some (.deferred (some [])) := (e5 D fun hh => hdisj _ hh _ hd rfl).trans h2
   exact (hst3.keep D (Array.getElem?_eq_some_iff.1 h3).1 (hown2.obj h3 rfl)).trans h3
  have := ZR (P := K.P) (fn := fn) (tmps := a'.tmps) (Q := Lv K Φ) (rest := []) (rd := none) ms0 w3 hn2 hmk3 fun w4 f1 f2 f3 f4 f5 => ?_
  ·rwa [List.append_nil] at this
  have hS3 : ∀ b, S3 b → (⟨.collected b, #[]⟩ : Deferred) ∉ ms0 := fun b hb hm0 => by
   have hBb : B b := List.mem_append_right _ hm0
   have hlt := (Array.getElem?_eq_some_iff.1 (hB b hBb).2).1
   rcases hst3.new b hb with h | h | h
   ·exact h.2 hBb
   ·omega
   ·exact hr'.own.obj (hB b hBb).2 rfl h
  have hm4 : ∀ b, S3 b → S3 b ∧ w4.heap[b]? = w3.heap[b]? := fun b hb => ⟨hb, f5 b (hS3 b hb)⟩
  have henv4 : ZC S3 w4 t' a' := (henv2.mono (hst3.mono hst2.wf hown2.apart)).mono hm4
  obtain ⟨ds, r, H2, r1, r2, r3, r4⟩ := hres H1 hΦ1
  have hle := r4 hown3.nodup
  have hown4 : Own S3 w4 H1 := ⟨hown3.nodup, hown3.apart, fun p hp => by
   obtain ⟨o, h1, h2⟩ := (hown3.has p hp).isMem
   refine (hown3.has p hp).mono (f5 p.1 fun hm0 => ?_) hm4
   obtain ⟨D, hD0, hD1⟩ := hmk3 _ hm0
   cases hD0
   rw [h1] at hD1; cases hD1; cases h2⟩
  obtain ⟨u, hu, hrel⟩ := Vb (P := K.P) henv4 hown4 r1
  have hs := hst2.trans hst3 hr'.mine
  have hst4 : QN K.F0 K.S0 K.w0 S3 w4 := ⟨f1.trans hs.os, f2.trans hs.tape, f3.trans hs.output, by rw [f4]; exact hs.size,
   fun b hb hn => (f5 b (fun hbm => absurd hb (Nat.not_lt.2 (hB b (List.mem_append_right _ hbm)).1))).trans (hs.keep b hb hn), hs.sub, hs.new, fun b hb => by rw [f4]; exact hs.wf b hb⟩
  refine ⟨u, hu, u, S3, r, H2, rfl, r3, r2 _ _ _ hrel, hown4.le hle, hst4, fun b hb => ?_⟩
  rcases hkeys b (hle.sub b hb) with h | h
  ·exact hr'.mine b h
  ·exact .inr (Nat.le_trans hst2.size h)
 cases e with
 | normal => exact fin hp
 | ret => exact fin hp
 | _ => exact hp.elim
theorem OG {fr : Frame} {cs : List Frame} (hm : fr.mode = .returning) : ∀ (ds : List Deferred) (w : World), fr.defers = ds → ds.Nodup → (∀ d ∈ ds, ∃ D, d = ⟨.collected D, #[]⟩ ∧ w.heap[D]? = some (.deferred (some []))) →
  ∃ w', StepsIn (Machine.fenced P (RF none)) P (lone fr cs w) (lone { fr with defers := [] } cs w') ∧ w'.os = w.os ∧ w'.tape = w.tape ∧ w'.output = w.output ∧ w'.heap.size = w.heap.size ∧ ∀ b, (⟨.collected b, #[]⟩ : Deferred) ∉ ds → w'.heap[b]? = w.heap[b]? := by
 intro ds
 induction ds generalizing fr with
 | nil => exact fun w hd _ _ => ⟨w, by rw [← hd]; exact StepsIn.refl _, rfl, rfl, rfl, rfl, fun _ _ => rfl⟩
 | cons d ds ih =>
  intro w hd hn hk
  obtain ⟨D, rfl, hk0⟩ := hk d List.mem_cons_self
  have hn' := List.nodup_cons.1 hn
  have hrun : fr.mode ≠ .run := by rw [hm]; simp
  have h1 := step_collected (P := P) (cs := cs) hrun hd rfl (run_takeDeferred hk0)
  have i1 : (lone fr cs w).fenced P (RF none) := fenced_out (n := 0) trivial (Jp _ _) hrun hd (fun g hg => by simp [Target.leads] at hg)
  obtain ⟨w', s1, s2, s3, s4, s5, s6⟩ := ih (fr := { fr with defers := [] ++ ds }) hm (w.putObj D (.deferred none)) rfl hn'.2 (fun e he => by
   obtain ⟨E, rfl, hE⟩ := hk e (List.mem_cons_of_mem _ he)
   refine ⟨E, rfl, ?_⟩
   rw [World.putObj_heap_other (fun e => hn'.1 (by rw [← e]; exact he))]; exact hE)
  refine ⟨w', .head i1 h1 s1, s2, s3, s4, by rw [s5]; simp, fun b hb => ?_⟩
  rw [s6 b fun h => hb (List.mem_cons_of_mem _ h), World.putObj_heap_other (fun e => hb (by rw [e]; exact List.mem_cons_self))]
theorem LF {f : FuncId} {fn : Func} {c : Code} {vs : List Value} {H : Qc} {Φ : Qc → Prop} (hf : P.funcs[f]? = some fn) (hb : fn.body = some c) (hn : Nat.ble vs.length fn.ntmps = true) (hres : fn.results = #[])
  (h : ∀ (S0 : Nat → Prop) (w0 : World), Sim ⟨P, fn.ntmps, S0, w0, keys H, none, Ju.none, w0.heap.size, []⟩ c ((List.range vs.length).zip (vs.map T.v)) H (fun e _ H' => (e = .normal ∨ e = .ret) ∧ ∃ H2, Qh H' H2 ∧ Φ H2)) : DfH P f vs.toArray H Φ := by
 intro S w hw ho
 refine ⟨trivial, fun c₀ cs hu _ => ?_⟩
 let b : Frame := { (default : Frame) with fn := f, kind := .deferred, roundOf := none }
 have hn' : vs.length ≤ fn.ntmps := Nat.le_of_ble_eq_true hn
 have henter : Frame.enter P f vs.toArray .deferred = b.atR { tmps := vs.toArray ++ Array.replicate (fn.ntmps - vs.toArray.size) undef, defers := [] } [.code c] := by simp [Frame.enter, Frame.atR, hf, hb, b]
 have hc : ({ c₀ with mode := .returning } : Frame) = c₀ := by rw [← hu]
 have hraw : ∀ vs : List Value, Qr S w (vs.map T.v) vs := fun vs => by
  induction vs with
  | nil => exact .nil
  | cons v vs ih => exact .cons _ _ _ _ (.v v) ih
 have henv := UP (hraw vs) fn.ntmps
 rw [List.length_map] at henv
 obtain ⟨e, a', w', ⟨t', H', ⟨he, H2, hfr, hΦ⟩, S', hr'⟩, harr⟩ := h S w { tmps := vs.toArray ++ Array.replicate (fn.ntmps - vs.toArray.size) undef, defers := [] } w
  ⟨S, by simp; omega, ⟨Nat.le_refl _, Mks.zero, fun _ _ => trivial⟩, QN.refl _ hw, ho, fun b hb => .inl hb, henv⟩ b [] (c₀ :: cs) rfl trivial (Jp _ _)
 rw [← henter] at harr
 obtain ⟨hnd, hmk⟩ := hr'.defers.marks.nil
 have fin : ∀ todo, StepsIn (Machine.fenced P (RF none)) P (lone (Frame.enter P f vs.toArray .deferred) (c₀ :: cs) w) (lone { b.atR a' todo with mode := .returning } (c₀ :: cs) w') →
   ∃ e u' w' fr, (u' = .returning ∧ ∃ v S' H', e = Ending.returned v ∧ Φ H' ∧ Own S' w' H' ∧ QN (keys H) S w S' w' ∧ ∀ b ∈ keys H', b ∈ keys H ∨ w.heap.size ≤ b) ∧
    ComesIn (Machine.fenced P (RF none)) P (lone (Frame.enter P f vs.toArray .deferred) (c₀ :: cs) w) (lone fr ({ c₀ with mode := u' } :: cs) w') e ∧ fr.kind = .deferred ∧ fr.fn = f ∧ fr.going P w' e := by
  intro todo hsteps
  obtain ⟨w2, s1, e1, e2, e3, e4, e5⟩ := OG (P := P) (fr := { b.atR a' todo with mode := .returning }) (cs := c₀ :: cs) rfl a'.defers w' rfl hnd (fun d hd => let ⟨D, h1, _, h3⟩ := hmk d hd; ⟨D, h1, h3⟩)
  let B : Nat → Prop := fun b => (⟨.collected b, #[]⟩ : Deferred) ∈ a'.defers
  have hB : ∀ b, B b → w.heap.size ≤ b ∧ (∀ cs ty fz, w'.heap[b]? ≠ some (.cells cs ty fz)) ∧ ∀ o, V6 o = true → w'.heap[b]? ≠ some o := fun b hbm => by
   obtain ⟨D, hD, h0, h1⟩ := hmk _ hbm
   cases hD
   exact ⟨h0, fun cs ty fz => by rw [h1]; simp, fun o h2 h3 => by rw [h1] at h3; cases h3; cases h2⟩
  have hm : ∀ b, (S' b ∧ ¬ B b) → (S' b ∧ ¬ B b) ∧ w2.heap[b]? = w'.heap[b]? := fun b hb => ⟨hb, e5 b hb.2⟩
  have hle := hfr.le hr'.own.nodup
  have hown : Own (fun b => S' b ∧ ¬ B b) w2 H' := ⟨hr'.own.nodup, fun b hb hS => hr'.own.apart b hb hS.1, fun p hp => by
   exact (hr'.own.has p hp).shrunk (fun b hb => (hB b hb).2.1) (fun b hb => (hB b hb).2.2) (fun hnb => e5 p.1 hnb) hm⟩
  have hst : QN (keys H) S w (fun b => S' b ∧ ¬ B b) w2 := ⟨e1.trans hr'.step.os, e2.trans hr'.step.tape, e3.trans hr'.step.output, by rw [e4]; exact hr'.step.size,
   fun b hb hn => (e5 b (fun hbm => absurd hb (Nat.not_lt.2 (hB b hbm).1))).trans (hr'.step.keep b hb hn), fun b hb => ⟨hr'.step.sub b hb, fun hbm => absurd (hw b hb) (Nat.not_lt.2 (hB b hbm).1)⟩, fun b hb => hr'.step.new b hb.1, fun b hb => by rw [e4]; exact hr'.step.wf b hb.1⟩
  refine ⟨.returned (.tuple #[]), .returning, w2, _, ⟨rfl, .tuple #[], _, H2, rfl, hΦ, hown.le hle, hst, fun b hb => hr'.mine b (hle.sub b hb)⟩, by rw [hc]; exact StepsIn.trans hsteps s1, rfl, rfl, rfl, rfl, fn, hf, ?_⟩
  simp [results, hres]
 rcases he with rfl | rfl
 ·exact fin [] (StepsIn.trans harr (.one (fenced_calm (fr := b.atR a' []) (n := 0) trivial (Jp _ _) rfl) (stepR_end rfl)))
 ·obtain ⟨todo, hs⟩ := harr.1 rfl
  exact fin todo hs
section
variable {b : Frame} {a : Act} {k : List Item} {cs : List Frame} {w w' : World} {ops : Array Oper} {i : Nat} {rest : List Nat} {o : Oper}
theorem VM (ho : ops[i]? = some o) (hg : o.guard = none) (hro : b.roundOf = none) {v : Value} (hr : (execOp a.eval o).run P w = .ok (.value v) w') :
  step P (lone (b.atR a (.inRegion ops (i :: rest) :: k)) cs w) = .next (lone (b.atR (a.put o.dst v) (.inRegion ops rest :: k)) cs w') := by
 refine step_lone_go ?_
 have hg' := stepGR_op (P := P) (b := b) (k := k) (cs := cs) (w := w) (rest := rest) ho (Q7 hg a)
 rw [hro, Oper.semAt_none] at hg'
 have hfin : (b.atR a (.inRegion ops (i :: rest) :: k)).finish v = b.atR (a.put o.dst v) (.inRegion ops rest :: k) := by rw [Frame.finish_atR, ho]; rfl
 rw [hg', ← hfin]
 simp [stepG.apply, hr]
theorem Ur (ho : ops[i]? = some o) (hg : o.guard = none) (hro : b.roundOf = none) (hk : b.kind = .deferred) (hcs : recoverD cs = none) (hr : (execOp a.eval o).run P w = .ok .recover w') :
  step P (lone (b.atR a (.inRegion ops (i :: rest) :: k)) cs w) = .next (lone (b.atR (a.put o.dst .nilIface) (.inRegion ops rest :: k)) cs w') := by
 refine step_lone_go ?_
 have hg' := stepGR_op (P := P) (b := b) (k := k) (cs := cs) (w := w) (rest := rest) ho (Q7 hg a)
 rw [hro, Oper.semAt_none] at hg'
 have hfin : (b.atR a (.inRegion ops (i :: rest) :: k)).finish .nilIface = b.atR (a.put o.dst .nilIface) (.inRegion ops rest :: k) := by rw [Frame.finish_atR, ho]; rfl
 have htr := (tryRecover_deferred (fr := b.atR a (.inRegion ops (i :: rest) :: k)) hk cs).trans hcs
 rw [hg', ← hfin]
 simp only [Frame.atR, hro] at htr ⊢
 simp [stepG.apply, hr, htr]
end
theorem LX {S : Nat → Prop} {w : World} {H : Qc} {a : Act} (ho : Own S w H) {i bl : Nat} {kb : Blk} (hi : H[i]? = some (bl, kb)) {rp : Value} (hd : kb.cells[0]? = some (.v rp)) {ty tp : TypeId} (hk : QC P ty = true) {x : Operand} {dst : Option Tmp} {pos : String} {aft : Array Edge} {g : Option (Nat × Bool)}
  (hv : a.eval x = .pointer (some ⟨bl, 0, none⟩)) : (execOp a.eval ⟨dst, .load ty x, tp, pos, aft, g⟩).run P w = .ok (.value rp) w := by
 obtain ⟨ty1, hT, cs, hb, hsz, hl, hrl⟩ := (ho.at hi).cases.resolve_right (by rintro ⟨_, rfl, _⟩; simp at hd)
 obtain ⟨y, hy, hr'⟩ := hrl.get hd
 rw [List.getElem?_take] at hy
 split at hy
 ·have hcell' : w.cell? ⟨bl, 0, none⟩ = some y := by rw [YK hb]; simpa using hy
  rw [hr'.v_eq] at hcell'
  simp [execOp, hv, Instr.loadAt, Instr.sureAddr, loadVar, Jk hk w, run_load, hcell']
 ·cases hy
theorem GR {f g : FuncId} {fn : Func} {id : Nat} {ty tp0 tp1 tp2 : TypeId} {p0 p1 p2 : String} {e0 e1 e2 : Array Edge} {ats at1 : Array TypeId} {d2 : Option Tmp} {H : Qc} {i bl : Nat} {kb : Blk} {rp : Value}
  (hf : P.funcs[f]? = some fn) (hb : fn.body = some (.region id #[⟨some 1, .load ty (.tmp 0), tp0, p0, e0, none⟩, ⟨some 2, .call ⟨.builtin .recover, #[], at1⟩, tp1, p1, e1, none⟩, ⟨d2, .call ⟨.value (.func g), #[.tmp 1, .tmp 2], ats⟩, tp2, p2, e2, none⟩] true))
  (hn : fn.ntmps = 4) (hres : fn.results = #[]) (hH : H[i]? = some (bl, kb)) (hd : kb.cells[0]? = some (.v rp)) (hk : QC P ty = true) (hc : QE P g = true) (hg : FnP P g [.v rp, .v .nilIface] (fun r => r = .tup []))
  (hord : ∀ t, Region.schedule (P.follows .mixedOrders) #[⟨some 1, .load ty (.tmp 0), tp0, p0, e0, none⟩, ⟨some 2, .call ⟨.builtin .recover, #[], at1⟩, tp1, p1, e1, none⟩, ⟨d2, .call ⟨.value (.func g), #[.tmp 1, .tmp 2], ats⟩, tp2, p2, e2, none⟩] t = [0, 1, 2] ∨
   Region.schedule (P.follows .mixedOrders) #[⟨some 1, .load ty (.tmp 0), tp0, p0, e0, none⟩, ⟨some 2, .call ⟨.builtin .recover, #[], at1⟩, tp1, p1, e1, none⟩, ⟨d2, .call ⟨.value (.func g), #[.tmp 1, .tmp 2], ats⟩, tp2, p2, e2, none⟩] t = [1, 0, 2]) :
  DfH P f #[.pointer (some ⟨bl, 0, none⟩)] H (fun H' => H' = H) := by
 intro S w hw ho
 refine ⟨trivial, fun c₀ cs hu _ => ?_⟩
 generalize hops : (#[⟨some 1, .load ty (.tmp 0), tp0, p0, e0, none⟩, ⟨some 2, .call ⟨.builtin .recover, #[], at1⟩, tp1, p1, e1, none⟩, ⟨d2, .call ⟨.value (.func g), #[.tmp 1, .tmp 2], ats⟩, tp2, p2, e2, none⟩] : Array Oper) = ops at hb hord
 have g0 : ops[0]? = some ⟨some 1, .load ty (.tmp 0), tp0, p0, e0, none⟩ := by rw [← hops]; rfl
 have g1 : ops[1]? = some ⟨some 2, .call ⟨.builtin .recover, #[], at1⟩, tp1, p1, e1, none⟩ := by rw [← hops]; rfl
 have g2 : ops[2]? = some ⟨d2, .call ⟨.value (.func g), #[.tmp 1, .tmp 2], ats⟩, tp2, p2, e2, none⟩ := by rw [← hops]; rfl
 let b : Frame := { (default : Frame) with fn := f, kind := .deferred, roundOf := none }
 have henter : Frame.enter P f #[.pointer (some ⟨bl, 0, none⟩)] .deferred = b.atR { tmps := #[.pointer (some ⟨bl, 0, none⟩), undef, undef, undef], defers := [] } [.code (.region id ops true)] := by
  simp [Frame.enter, Frame.atR, hf, hb, hn, b]
 have hc0 : ({ c₀ with mode := .returning } : Frame) = c₀ := by rw [← hu]
 have hrec : recoverD (c₀ :: cs) = none := by simp [recoverD, hu]
 have s0 := stepR_region_draw (P := P) (b := b) (a := { tmps := #[.pointer (some ⟨bl, 0, none⟩), undef, undef, undef], defers := [] }) (k := []) (cs := c₀ :: cs) (w := w) (ops := ops) (id := id)
 have ho1 : Own S w.drew H := ho.step (X5 hw []) hw (by simp) (by simp)
 have hload : ∀ a : Act, a.eval (.tmp 0) = .pointer (some ⟨bl, 0, none⟩) → (execOp a.eval ⟨some 1, .load ty (.tmp 0), tp0, p0, e0, none⟩).run P w.drew = .ok (.value rp) w.drew := fun a h => LX ho1 hH hd hk h
 have hrecv : ∀ a : Act, (execOp a.eval ⟨some 2, .call ⟨.builtin .recover, #[], at1⟩, tp1, p1, e1, none⟩).run P w.drew = .ok .recover w.drew := fun a => by rfl
 have fen : ∀ (a : Act) (j : Nat) (rest : List Nat) (o : Oper), ops[j]? = some o → (lone (b.atR a (.inRegion ops (j :: rest) :: [])) (c₀ :: cs) w.drew).fenced P (RF none) := fun a j rest o h => fenced_oper (n := 0) trivial (Jp _ _) h fun _ _ => trivial
 have reach : ∀ l, (l = [0, 1, 2] ∨ l = [1, 0, 2]) → StepsIn (Machine.fenced P (RF none)) P (lone (b.atR { tmps := #[.pointer (some ⟨bl, 0, none⟩), undef, undef, undef], defers := [] } (.inRegion ops l :: [])) (c₀ :: cs) w.drew)
   (lone (b.atR { tmps := #[.pointer (some ⟨bl, 0, none⟩), rp, .nilIface, undef], defers := [] } (.inRegion ops [2] :: [])) (c₀ :: cs) w.drew) := by
  rintro l (rfl | rfl)
  ·exact .head (fen _ _ _ _ g0) (VM g0 rfl rfl (hload _ rfl)) (.one (fen _ _ _ _ g1) (Ur g1 rfl rfl rfl hrec (hrecv _)))
  ·exact .head (fen _ _ _ _ g1) (Ur g1 rfl rfl rfl hrec (hrecv _)) (.one (fen _ _ _ _ g0) (VM g0 rfl rfl (hload _ rfl)))
 have hp := M8 (P := P) (t := [(1, .v rp), (2, .v .nilIface)]) (H := H) (dst := d2) (tp := tp2) (pos := p2) (aft := e2) (g := none) (xs := #[.tmp 1, .tmp 2]) (ats := ats) (args := [.v rp, .v .nilIface]) hc (QK rfl (QK rfl XE)) hg
 have hw2 : wpOpsIn (RF none) 0 P ops (fun e a' w' => e = .normal ∧ a'.defers = [] ∧ ∃ S', QN [] S w.drew S' w') [2] { tmps := #[.pointer (some ⟨bl, 0, none⟩), rp, .nilIface, undef], defers := [] } w.drew := by
  rw [wpOpsIn_cons]
  unfold wpOpIn
  simp only [g2, Q7 (o := ⟨d2, .call ⟨.value (.func g), #[.tmp 1, .tmp 2], ats⟩, tp2, p2, e2, none⟩) rfl, if_true]
  refine J6 none (fun c h => by cases h) (hp S w.drew _ hw ho1 (fun x hx => ?_) _ _ fun S' w' v hst _ => ?_)
  ·simp [Op.operands, Call.operands] at hx
   rcases hx with rfl | rfl | rfl <;> exact .v _
  ·exact ⟨rfl, by simp, S', hst⟩
 obtain ⟨e, a', w', ⟨rfl, hdf, S', hst⟩, harr⟩ := wp_opsIn [2] _ w.drew hw2 b [] (c₀ :: cs) rfl trivial (Jp _ _)
 have hstart : StepsIn (Machine.fenced P (RF none)) P (lone (Frame.enter P f #[.pointer (some ⟨bl, 0, none⟩)] .deferred) (c₀ :: cs) w) (lone (b.atR { tmps := #[.pointer (some ⟨bl, 0, none⟩), rp, .nilIface, undef], defers := [] } (.inRegion ops [2] :: [])) (c₀ :: cs) w.drew) := by
  rw [henter]
  exact .head (fenced_calm (n := 0) trivial (Jp _ _) rfl) s0 (reach _ (hord _))
 have hend := StepsIn.trans hstart (StepsIn.trans harr (.one (fenced_calm (fr := b.atR a' []) (n := 0) trivial (Jp _ _) rfl) (stepR_end rfl)))
 have hst' : QN (keys H) S w S' w' := ((X5 hw (keys H)).trans hst (by simp))
 refine ⟨.returned (.tuple #[]), .returning, w', _, ⟨rfl, .tuple #[], S', H, rfl, rfl, ho1.step hst hw (by simp) (by simp), hst', fun b hb => .inl hb⟩, by rw [hc0]; exact hend, rfl, rfl, rfl, hdf, fn, hf, ?_⟩
 simp [results, hres]
end
section
variable {P : Program} {t : Env} {H : Qc} {dst : Option Tmp} {ty ty' tp : TypeId} {pos : String} {aft : Array Edge} {g : Option (Nat × Bool)}
theorem WP {ms : Array (String × TypeId)} (w : World) {ty : TypeId} (hu : P.underlying ty = some (.interface ms)) (d : Nat) : (Op.equalIn (d + 1) ty .nilIface .nilIface).run P w = .ok true w := by
 simp [Op.equalIn, run_underlying hu]
theorem L0 {ms : Array (String × TypeId)} (w : World) {ty : TypeId} (hu : P.underlying ty = some (.interface ms)) : (Op.equal ty .nilIface .nilIface).run P w = .ok true w := WP w hu 9999
theorem TU {x : Operand} {ms : Array (String × TypeId)} (hx : t.ev x = .v .nilIface := by exact zl) (hu : P.underlying ty = some (.interface ms) := by rfl) : POp P t H ⟨dst, .binOp .eql ty x (.const .nilIface) ty', tp, pos, aft, g⟩ (.v (.bool (decide True))) :=
 Q8 hx rfl fun w => by
  have := L0 w hu
  simp [eqGuard, binOp, this]
end
end Go.Cap
namespace Go.Proofs.YtjbokbikkcfjjaaGreat
open Go.Cap
attribute [local irreducible] POp Qf TO EOp Sim FnH T.gp
theorem LK (rp : Value) : FnP Tryz.prog 130 [.v rp, .v .nilIface] (fun r => r = .tup []) := by
 refine fe Tryz.func130 fun S0 w0 => ?_
 show Sim _ _ [(0, .v rp), (1, .v .nilIface)] _ _
 refine zC ?_
 refine cr <| s_ Qa <| s_ TU ?_
 refine cn ?_
 refine zC ?_
 refine ci (fun _ => ?_) (fun h => absurd trivial h)
 refine zE ?_
 exact Le.refl _
theorem Br {H : Qc} {i bl : Nat} {kb : Blk} {rp : Value} (hH : H[i]? = some (bl, kb)) (hd : kb.cells[0]? = some (.v rp)) : DfH Tryz.prog 129 #[.pointer (some ⟨bl, 0, none⟩)] H (fun H' => H' = H) := by
 have hm : Tryz.prog.follows .mixedOrders = true := by kernel_rfl
 refine GR (g := 130) Tryz.func129 (by rfl) (by rfl) (by rfl) hH hd (by rfl) (by kernel_rfl) (LK rp) fun t => ?_
 have h2 : t % 2 = 0 ∨ t % 2 = 1 := by omega
 unfold Region.schedule Region.linearise
 rw [hm]
 rcases h2 with h | h
 ·left
  simp [Region.linearise.go, List.range_succ, h, Region.binds, Nat.mod_one]
 ·right
  simp [Region.linearise.go, List.range_succ, h, Region.binds, Nat.mod_one]
theorem RH {H : Qc} {i bl : Nat} {kb : Blk} {rp : Value} (hH : H[i]? = some (bl, kb)) (hd : kb.cells[0]? = some (.v rp)) : DfH Tryz.prog 156 #[.pointer (some ⟨bl, 0, none⟩)] H (fun H' => H' = H) := by
 have hm : Tryz.prog.follows .mixedOrders = true := by kernel_rfl
 refine GR (g := 130) Tryz.func156 (by rfl) (by rfl) (by rfl) hH hd (by rfl) (by kernel_rfl) (LK rp) fun t => ?_
 have h2 : t % 2 = 0 ∨ t % 2 = 1 := by omega
 unfold Region.schedule Region.linearise
 rw [hm]
 rcases h2 with h | h
 ·left
  simp [Region.linearise.go, List.range_succ, h, Region.binds, Nat.mod_one]
 ·right
  simp [Region.linearise.go, List.range_succ, h, Region.binds, Nat.mod_one]
end Go.Proofs.YtjbokbikkcfjjaaGreat
