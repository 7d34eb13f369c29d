/-
  An element of a slice of one's own taken out: append of its own rest, the rest cleared; slices.Delete of messages.
-/
import Derived.Test.YtjbokbikkcfjjaaGreatAaw
set_option maxRecDepth 16000
set_option maxHeartbeats 8000000
set_option linter.all false
namespace Go.Cap
section
variable {K : Ctx} {P : Program} {t : Env} {H : Qd} {dst : Option Tmp} {tp : TypeId} {pos : String} {aft : Array Edge} {g : Option (Nat × Bool)} {N : Env → Qd → Prop}
variable {S : Nat → Prop} {w : World} {ty ty' : TypeId}
theorem XA.set {i b : Nat} {k k' : Blk} (hi : i < H.length) (hl : YJ k k') (hn : (keys (H.set i (b, k))).Nodup) : XA (H.set i (b, k)) (H.set i (b, k')) := by
 refine ⟨?_, fun p hp => ?_⟩
 ·have e : keys (H.set i (b, k')) = keys (H.set i (b, k)) := by unfold keys; rw [List.map_set, List.map_set]
  rw [e]; exact hn
 ·obtain ⟨j, hj⟩ := List.mem_iff_getElem?.1 hp
  rw [List.getElem?_set] at hj
  by_cases hij : i = j
  ·subst hij
   rw [if_pos rfl, if_pos hi] at hj
   cases hj
   exact ⟨k, List.mem_iff_getElem?.2 ⟨i, by rw [List.getElem?_set, if_pos rfl, if_pos hi]⟩, hl⟩
  ·rw [if_neg hij] at hj
   exact ⟨p.2, List.mem_iff_getElem?.2 ⟨j, by rw [List.getElem?_set, if_neg hij]; exact hj⟩, YJ.refl _⟩
theorem R.heap {H' : Qd} {a : Act} {w : World} (h : R K t H a w) (hH : (keys H).Nodup → XA H H') : R K t H' a w := by
 obtain ⟨S, h⟩ := h
 have hle := hH h.own.nodup
 exact ⟨S, h.size, h.defers, h.step, h.own.le hle, fun b hb => h.mine b (hle.sub b hb), h.env⟩
theorem Ca {i : Nat} {p : Nat × Blk} (h : H[i]? = some p) : H.set i p = H := by
 refine List.ext_getElem? fun j => ?_
 rw [List.getElem?_set]
 split
 ·rename_i e; subst e; rw [h, if_pos (List.getElem?_eq_some_iff.1 h).1]
 ·rfl
theorem MF {e : BTy} {cs r : List T} {n : Nat} : YJ ⟨e, cs ++ r, n⟩ ⟨e, cs, n⟩ := ⟨rfl, rfl, by simp, by simp only; rw [List.take_left]; exact LeL.refl _⟩
theorem TY {x l h m : Operand} {p : Option Addr} {n c : Nat} {k k' k2 : IntKind} {i j q : Int} {d : T} {by_ : Nat} [hz : QF P ty d by_] (h0 : 0 ≤ i) (h1 : i ≤ j) (h2 : j ≤ q) (h3 : q ≤ c) (hx : t.ev x = .v (.slice p n c) := by exact zl) (hl : t.ev l = .v (.int k i) := by exact zl) (hh : t.ev h = .v (.int k' j) := by exact zl) (hm : t.ev m = .v (.int k2 q) := by exact zl) :
  POp P t H ⟨dst, .slice ty x (some l) (some h) (some m), tp, pos, aft, g⟩ .any :=
 POp.still fun S w a _ _ hr => by
  have e1 := hr x (by simp [Op.operands]); rw [hx] at e1
  have e2 := hr l (by simp [Op.operands]); rw [hl] at e2
  have e3 := hr h (by simp [Op.operands]); rw [hh] at e3
  have e4 := hr m (by simp [Op.operands]); rw [hm] at e4
  obtain ⟨e, inf, hu, hinf, hs, hp⟩ := Yi (P := P) (ty := ty) (d := d) (by_ := by_)
  have hb1 : (Instr.sliceBounds true n c (some (a.eval l)) (some (a.eval h)) (some (a.eval m))).run P w = .ok (i.toNat, j.toNat, q.toNat) w := by
   rw [e2.v_eq, e3.v_eq, e4.v_eq]
   simp [Instr.sliceBounds, Q5 (P := P) (show 0 ≤ q by omega) (show q ≤ (c : Nat) by omega), Q5 (P := P) (show 0 ≤ j by omega) (show j ≤ (q.toNat : Nat) by omega), Q5 (P := P) h0 (show i ≤ (j.toNat : Nat) by omega)]
  refine ⟨.slice (if q.toNat = i.toNat then p else p.map (·.add (i.toNat * inf.size))) (j.toNat - i.toNat) (q.toNat - i.toNat), ?_, .any _⟩
  cases p with
  | none => simp [execOp, e1.v_eq, Instr.sliceAt, Instr.slice, run_underlying hu, hb1, Qw hinf]
  | some a =>
   by_cases hq : q.toNat = i.toNat
   ·simp [execOp, e1.v_eq, Instr.sliceAt, Instr.slice, run_underlying hu, hb1, Qw hinf, hq]
   ·simp [execOp, e1.v_eq, Instr.sliceAt, Instr.slice, run_underlying hu, hb1, Qw hinf, hq]
theorem NK {v : Value} {x l h : Operand} {p : Option Addr} {n c : Nat} {k k' : IntKind} {i j : Int} {d : T} {by_ : Nat} [hz : QF P ty d by_] (he : Yq d.cells.length p c i.toNat (j.toNat - i.toNat) = v) (h0 : 0 ≤ i) (h1 : i ≤ j) (h2 : j ≤ c) (hx : t.ev x = .v (.slice p n c) := by exact zl) (hl : t.ev l = .v (.int k i) := by exact zl) (hh : t.ev h = .v (.int k' j) := by exact zl) :
  POp P t H ⟨dst, .slice ty x (some l) (some h) none, tp, pos, aft, g⟩ (.v v) :=
 POp.still fun S w a _ _ hr => by
  have e1 := hr x (by simp [Op.operands]); rw [hx] at e1
  have e2 := hr l (by simp [Op.operands]); rw [hl] at e2
  have e3 := hr h (by simp [Op.operands]); rw [hh] at e3
  obtain ⟨e, inf, hu, hinf, hs, hp⟩ := Yi (P := P) (ty := ty) (d := d) (by_ := by_)
  have := Wa (P := P) (w := w) (p := p) (n := n) (c := c) (lo := i.toNat) (hi := j.toNat) (ol := some (a.eval l)) (oh := some (a.eval h)) (om := none) hu hinf (by
   rw [e2.v_eq, e3.v_eq]
   simp [Instr.sliceBounds, Q5 (P := P) (show 0 ≤ j by omega) (show j ≤ (c : Nat) by omega), Q5 (P := P) h0 (show i ≤ (j.toNat : Nat) by omega)])
  rw [hs, he] at this
  exact ⟨_, by simp [execOp, e1.v_eq, this], .v _⟩
theorem Lb {x y : Operand} {b n c i j kk : Nat} {e : TypeId} {cells : List T} {d : T} {by_ : Nat} {kd : Tmp} [hz : QF K.P ty d by_] (hkd : d.cells.length = kk) (hx : t.ev x = .v (.slice (some ⟨b, 0, none⟩) i c)) (hy : t.ev y = .v (Yq kk (some ⟨b, 0, none⟩) c j (n - j)))
  {H' : Qd} (hrp : Jv H (b, ⟨e, cells, c * kk⟩) (b, ⟨e, cells.take (i * kk) ++ cells.drop (j * kk), c * kk⟩) H') (hl : cells.length = n * kk) (hn : n ≤ c) (hij : i ≤ j) (hj : j ≤ n) (hleaf : Qt cells = true) (hs : QR K.P ty' = true) (hd : Nat.blt kd K.n = true)
  (h : N ((kd, .v (.slice (some ⟨b, 0, none⟩) (i + (n - j)) c)) :: t) H') :
  EOp K t H ⟨some kd, .call ⟨.builtin .append, #[x, y], #[ty, ty']⟩, tp, pos, aft, g⟩ N := by
 subst hkd
 obtain ⟨i0, hi0, rfl⟩ := hrp
 refine EOp.of_w (fun c e => by cases e) ?_
 intro a w ⟨S, hr⟩ Kc Q hk
 have h1 := hr.env.ev x; rw [hx] at h1
 have h2 := hr.env.ev y; rw [hy] at h2
 obtain ⟨el, inf, z, hu, hinf, hzz, hsz, hp, rfl, hby⟩ := Yb hz.h
 obtain ⟨e', _, hu', _⟩ := YL hs
 have hlv := Xf z
 generalize hkk : (T.ofVal z).cells.length = kk at *
 have hk0 : 0 < kk := by omega
 have hinfs : inf.size = kk := by omega
 obtain ⟨cs, hbk, hcs, hcl, hrl⟩ := (hr.own.at hi0).row rfl
 simp only at hcs hcl hrl
 have hcsl : cs.toList.length = c * kk := by rw [Array.length_toList]; exact hcs
 have hnk : n * kk ≤ c * kk := Nat.mul_le_mul_right _ hn
 have hjk : j * kk ≤ n * kk := Nat.mul_le_mul_right _ hj
 have hik : i * kk ≤ j * kk := Nat.mul_le_mul_right _ hij
 have hsub : (n - j) * kk = n * kk - j * kk := Nat.sub_mul _ _ _
 have hread : Qr S w (cells.drop (j * kk)) ((cs.toList.drop (j * kk)).take ((n - j) * kk)) := by
  have := hrl.drop (j * kk)
  rw [hl, List.drop_take] at this
  rw [hsub]; exact this
 generalize hus : (cs.toList.drop (j * kk)).take ((n - j) * kk) = us at hread
 have hul : us.length = (n - j) * kk := by rw [← hus, List.length_take, List.length_drop]; omega
 have hfc : (Builtin.firstCells inf.size (n - j) (Yq kk (some ⟨b, 0, none⟩) c j (n - j))).run K.P w = .ok us.toArray w := by
  rw [hinfs]
  unfold Yq
  simp only [Option.map_some, Builtin.firstCells]
  by_cases hcj : c = j
  ·have h0 : n - j = 0 := by omega
   rw [if_pos hcj, h0]
   rw [h0] at hul
   have : us = [] := List.length_eq_zero_iff.1 (by omega)
   rw [this]
   exact YS (b := b) (o := 0) (n := 0 * kk) hbk [] (by simp) (by simp)
  ·rw [if_neg hcj, Addr.add_mk]
   exact YS (b := b) (o := 0 + j * kk) hbk us hul (by rw [Nat.zero_add]; exact hus)
 have hlen : (Builtin.lenOf (Yq kk (some ⟨b, 0, none⟩) c j (n - j))).run K.P w = .ok (n - j) w := by simp [Yq, Builtin.lenOf]
 have hleaf' : Qt (cells.drop (j * kk)) = true := by
  unfold Qt at hleaf ⊢
  rw [List.all_eq_true] at hleaf ⊢
  exact fun q hq => hleaf q (List.mem_of_mem_drop hq)
 have hst := X5 (P := K.P) (o := 0 + i * inf.size) hbk us (by rw [hinfs, hul]; omega) (Jn hread hleaf')
 have e1 : (execOp a.eval ⟨some kd, .call ⟨.builtin .append, #[x, y], #[ty, ty']⟩, tp, pos, aft, g⟩).run K.P w = ((Builtin.append_ #[ty, ty'] tp #[a.eval x, a.eval y]).run K.P w).andThen fun v w' => .ok (.value v) w' := by
  simp [execOp, resolve, invoke, builtin]
 unfold Oper.wp
 rw [e1, h1.v_eq, h2.v_eq, VP (tp := tp) hu hu' hinf hlen (by omega) hfc hst]
 obtain ⟨s1, s2, s3, s4, s5, s6⟩ := Y4 (cs' := (lay cs.toList (0 + i * inf.size) us).toArray) hbk
 have hon : 0 + i * inf.size = i * kk := by rw [hinfs, Nat.zero_add]
 have hdl : (cells.drop (j * kk)).length = (n - j) * kk := by rw [List.length_drop, hl, hsub]
 have hw := hr.write (ty1 := e) rfl (xs := cells.drop (j * kk)) (us := us) (o := i * kk) hi0 (by simp only; omega) (by simp only; rw [hdl]; omega) s4 s5 s6 s3 s2 s1 (fun cs2 h2 => by rw [hbk] at h2; cases h2; rw [hon]) hread
 have hlay : lay cells (i * kk) (cells.drop (j * kk)) = (cells.take (i * kk) ++ cells.drop (j * kk)) ++ cells.drop (i * kk + (cells.drop (j * kk)).length) := rfl
 simp only at hw
 rw [hlay] at hw
 have hil : i0 < H.length := (List.getElem?_eq_some_iff.1 hi0).1
 have hw2 := R.heap ⟨S, hw⟩ (fun hnd => XA.set hil MF hnd)
 obtain ⟨S2, hw2⟩ := hw2
 refine hk _ _ _ _ h ⟨S2, ?_⟩
 exact ⟨by simp [hw2.size], hw2.defers.put (dst := some kd) hd, hw2.step, hw2.own, hw2.mine, hw2.env.put (dst := some kd) (by rw [hw2.size]; exact hd) (.v _)⟩
theorem NE {ops : Array Oper} {eff : List Nat} {q : Nat} {rest : Env → Qd → List Xb → Prop} {pend : List Xb} {x y : Operand} {b n c i j kk : Nat} {e : TypeId} {cells cells' : List T} {d : T} {by_ : Nat} {kd : Tmp} {H' : Qd} [hz : QF K.P ty d by_] (hl : cells.length = n * kk) (hn : n ≤ c) (hij : i ≤ j) (hj : j ≤ n) (hleaf : Qt cells = true)
  (hcs : cells.take (i * kk) ++ cells.drop (j * kk) = cells')
  (h : XR ops ⟨some kd, .call ⟨.builtin .append, #[x, y], #[ty, ty']⟩, tp, pos, aft, none⟩ H' pend ∧ rest ((kd, .v (.slice (some ⟨b, 0, none⟩) (i + (n - j)) c)) :: t) H' pend)
  (hx : t.ev x = .v (.slice (some ⟨b, 0, none⟩) i c) := by exact zl) (hy : t.ev y = .v (Yq kk (some ⟨b, 0, none⟩) c j (n - j)) := by exact zl) (hkd : d.cells.length = kk := by rfl) (hr : Jv H (b, ⟨e, cells, c * kk⟩) (b, ⟨e, cells', c * kk⟩) H' := by exact zr) (hs : QR K.P ty' = true := by rfl) (hd : Nat.blt kd K.n = true := by rfl) (he : QZ eff q = true := by rfl) :
  QO K ops eff q ⟨some kd, .call ⟨.builtin .append, #[x, y], #[ty, ty']⟩, tp, pos, aft, none⟩ rest t H pend := by
 subst hcs
 exact IX (fun t0 h1 => Lb hkd ((h1 x (by simp [Op.operands, Call.operands])).trans hx) ((h1 y (by simp [Op.operands, Call.operands])).trans hy) hr hl hn hij hj hleaf hs hd ⟨_, rfl, h⟩) he
theorem W7 {x : Operand} {b n c m kk : Nat} {e : TypeId} {cells : List T} {d : T} {by_ : Nat} [hz : QF K.P ty d by_] (hkd : d.cells.length = kk) (hx : t.ev x = .v (Yq kk (some ⟨b, 0, none⟩) c m (n - m)))
  (hm : (b, (⟨e, cells, c * kk⟩ : Blk)) ∈ H) (hl : cells.length = m * kk) (hmn : m ≤ n) (hn : n ≤ c) (hleaf : Qt d.cells = true) (h : N t H) : EOp K t H ⟨none, .call ⟨.builtin .clear, #[x], #[ty]⟩, tp, pos, aft, g⟩ N := by
 subst hkd
 obtain ⟨i0, hi0⟩ := List.mem_iff_getElem?.1 hm
 refine EOp.of_w (fun c e => by cases e) ?_
 intro a w ⟨S, hr⟩ Kc Q hk
 have h1 := hr.env.ev x; rw [hx] at h1
 obtain ⟨el, inf, z, hu, hinf, hzz, hsz, hp, rfl, hby⟩ := Yb hz.h
 have hlv := Xf z
 have e1 : (execOp a.eval ⟨none, .call ⟨.builtin .clear, #[x], #[ty]⟩, tp, pos, aft, g⟩).run K.P w = ((Builtin.clear_ #[ty] tp #[a.eval x]).run K.P w).andThen fun v w' => .ok (.value v) w' := by
  simp [execOp, resolve, invoke, builtin]
 unfold Oper.wp
 rw [e1, h1.v_eq]
 by_cases h0 : n - m = 0
 ·have : (Builtin.clear_ #[ty] tp #[Yq (T.ofVal z).cells.length (some ⟨b, 0, none⟩) c m (n - m)]).run K.P w = .ok (.tuple #[]) w := by
   rw [h0]; simp [Builtin.clear_, Yq, run_underlying hu]
  rw [this]
  exact hk _ _ _ _ h ⟨S, hr⟩
 ·generalize hkk : (T.ofVal z).cells.length = kk at *
  have hk0 : 0 < kk := by omega
  obtain ⟨cs, hbk, hcs, hcl, hrl⟩ := (hr.own.at hi0).row rfl
  simp only at hcs hcl hrl
  have hcsl : cs.toList.length = c * kk := by rw [Array.length_toList]; exact hcs
  have hnk : n * kk ≤ c * kk := Nat.mul_le_mul_right _ hn
  have hmk : m * kk ≤ n * kk := Nat.mul_le_mul_right _ hmn
  have hsub : (n - m) * kk = n * kk - m * kk := Nat.sub_mul _ _ _
  have hzr : Qr S w (T.ofVal z).cells z.cells.toList := (Rel.ofVal z).cells (by omega)
  have hrel := LZ hzr (n - m)
  have hzl : (Builtin.zeroCells z.cells (n - m)).toList = (List.replicate (n - m) z.cells.toList).flatten := by
   unfold Builtin.zeroCells; exact WK z.cells (n - m)
  rw [← hzl] at hrel
  have hxl : ((List.replicate (n - m) (T.ofVal z).cells).flatten).length = (n - m) * kk := by rw [Y9, hkk]
  have hul := hrel.length
  have hlf : Qt ((List.replicate (n - m) (T.ofVal z).cells).flatten) = true := by
   unfold Qt at hleaf ⊢
   rw [List.all_eq_true] at hleaf ⊢
   intro q hq
   obtain ⟨r, h5, h6⟩ := List.mem_flatten.1 hq
   rw [List.eq_of_mem_replicate h5] at h6
   exact hleaf q h6
  have hst := X5 (P := K.P) (o := 0 + m * kk) hbk (Builtin.zeroCells z.cells (n - m)).toList (by rw [hul, hxl]; omega) (Jn hrel hlf)
  obtain ⟨n', hn'⟩ : ∃ n', n - m = n' + 1 := ⟨n - m - 1, by omega⟩
  have hzv : ∀ w : World, (zeroValue el).run K.P w = .ok z w := fun w => by simp [zeroValue, typeInfo, hinf, hzz]
  have hrun : (Builtin.clear_ #[ty] tp #[Yq kk (some ⟨b, 0, none⟩) c m (n - m)]).run K.P w = .ok (.tuple #[]) (w.setRow b (lay cs.toList (0 + m * kk) (Builtin.zeroCells z.cells (n - m)).toList).toArray) := by
   have hcm : ¬ c = m := by omega
   have e2 : Yq kk (some ⟨b, 0, none⟩) c m (n - m) = .slice (some ⟨b, 0 + m * kk, none⟩) (n - m) (c - m) := by
    unfold Yq; simp only [Option.map_some, if_neg hcm, Addr.add_mk]
   rw [e2]
   generalize hq : n - m = q at hst hn' ⊢
   subst hn'
   simp only [Nat.zero_add] at hst
   simp [Builtin.clear_, run_underlying hu, hzv, hst]
  rw [hrun]
  obtain ⟨s1, s2, s3, s4, s5, s6⟩ := Y4 (cs' := (lay cs.toList (0 + m * kk) (Builtin.zeroCells z.cells (n - m)).toList).toArray) hbk
  have hw := hr.write (ty1 := e) rfl (xs := (List.replicate (n - m) (T.ofVal z).cells).flatten) (us := (Builtin.zeroCells z.cells (n - m)).toList) (o := m * kk) hi0 (by simp only; omega) (by simp only; rw [hxl]; omega) s4 s5 s6 s3 s2 s1 (fun cs2 h2 => by rw [hbk] at h2; cases h2; rw [Nat.zero_add]) hrel
  have hlay : lay cells (m * kk) ((List.replicate (n - m) (T.ofVal z).cells).flatten) = cells ++ (List.replicate (n - m) (T.ofVal z).cells).flatten := by
   unfold lay
   rw [← hl, List.take_length, List.drop_of_length_le (by omega), List.append_nil]
  simp only at hw
  rw [hlay] at hw
  have hil : i0 < H.length := (List.getElem?_eq_some_iff.1 hi0).1
  have hw2 := R.heap ⟨S, hw⟩ (fun hnd => XA.set hil MF hnd)
  rw [Ca hi0] at hw2
  exact hk _ _ _ _ h hw2
end
end Go.Cap
namespace Go.Proofs.YtjbokbikkcfjjaaGreat
open Go.Cap
attribute [local irreducible] POp Qf Pw EOp Sim FnH T.gp
theorem AS (l : List Ms) : Qt ((l.map ms).flatMap T.cells) = true := by
 unfold Qt
 rw [List.all_eq_true]
 intro q hq
 obtain ⟨x, h1, h2⟩ := List.mem_flatMap.1 hq
 obtain ⟨m, _, rfl⟩ := List.mem_map.1 h1
 have h2' : q ∈ msC m (ZM m.entries) := h2
 simp only [msC, List.mem_cons, List.not_mem_nil, or_false] at h2'
 rcases h2' with rfl | rfl | rfl | rfl | rfl | rfl | rfl | rfl | rfl | rfl | rfl <;> rfl
theorem GN (l : List Ms) (i : Nat) : ((l.map ms).flatMap T.cells).take (i * 11) ++ ((l.map ms).flatMap T.cells).drop ((i + 1) * 11) = ((l.eraseIdx i).map ms).flatMap T.cells := by
 have h : ∀ (xs : List T) (k n : Nat), (∀ x ∈ xs, x.cells.length = n) → (xs.flatMap T.cells).take (k * n) = (xs.take k).flatMap T.cells ∧ (xs.flatMap T.cells).drop (k * n) = (xs.drop k).flatMap T.cells := by
  intro xs
  induction xs with
  | nil => intro k n _; simp
  | cons x xs ih =>
   intro k n hx
   have hxn := hx x List.mem_cons_self
   cases k with
   | zero => simp
   | succ k =>
    obtain ⟨h1, h2⟩ := ih k n fun y hy => hx y (List.mem_cons_of_mem _ hy)
    have e : (k + 1) * n = x.cells.length + k * n := by rw [Nat.succ_mul, hxn]; omega
    refine ⟨?_, ?_⟩
    ·rw [List.flatMap_cons, e, List.take_length_add_append, h1, List.take_succ_cons, List.flatMap_cons]
    ·rw [List.flatMap_cons, e, List.drop_length_add_append, h2, List.drop_succ_cons]
 rw [(h _ i 11 (WI l)).1, (h _ (i + 1) 11 (WI l)).2, ← List.flatMap_append, ← List.map_take, ← List.map_drop, ← List.map_append, List.eraseIdx_eq_take_drop_succ]
theorem BD (l : List Ms) (i : Nat) (hi : i < l.length) (hl : l.length ≤ 1000000000) {v : Value} {Hs : Qd} (ho : OM l v Hs) : FnH Tryz.prog 37 [.v v, ei (i : Nat), ei ((i : Int) + 1)] Hs (fun r H => ∃ v', r = .v v' ∧ OM (l.eraseIdx i) v' H) := by
 rcases ho with ⟨h, _⟩ | ⟨b, c, rfl, hc, rfl⟩
 ·have : l = [] := by simpa using h
  rw [this] at hi; simp at hi
 have hml : (l.map ms).length = l.length := List.length_map _
 rw [hml] at hc
 have hlen : ((l.map ms).flatMap T.cells).length = l.length * 11 := by rw [XW _ (WI l), hml]
 have hel : (l.eraseIdx i).length = l.length - 1 := by rw [List.length_eraseIdx, if_pos hi]
 rw [hml]
 refine fe Tryz.func37 fun S0 w0 => ?_
 show Sim _ _ [(0, .v (.slice (some ⟨b, 0, none⟩) l.length c)), (1, ei (i : Nat)), (2, ei ((i : Int) + 1))] [(b, ⟨tM, (l.map ms).flatMap T.cells, c * 11⟩)] _
 refine zC ?_
 refine cr <| s_ Qb <| zC ?_
 refine cr <| s_ Qa <| s_ Qa <| s_ Qa <| s_ Qa <| s_ QQ <| s_ (TY (c := c) (i := (i : Int)) (j := (i : Int) + 1) (q := (l.length : Int)) (by omega) (by omega) (by omega) (by omega)) <| zC ?_
 refine cr <| s_ Qa <| s_ Qa <| s_ Xi <| zC ?_
 refine ci (p := (i : Int) = (i : Int) + 1) (fun h => absurd h (by omega)) (fun _ => ?_)
 refine zC ?_
 refine cr <| s_ Qa <| s_ QQ <| s_ Qb <| zC ?_
 refine zC ?_
 refine ct [0, 1, 2, 3, 4, 5] [6, 7] <| t_ (fun _ => Qa) <| t_ (fun _ => Qa) <| t_ (fun _ => D7 (p := some ⟨b, 0, none⟩) (n := l.length) (c := c) (j := (i : Int)) (v := .slice (some ⟨b, 0, none⟩) i c) hc (by unfold Yq; simp [Addr.add])) <| t_ (fun _ => Qa) <| t_ (fun _ => Qa) <| t_ (fun _ => OD (p := some ⟨b, 0, none⟩) (n := l.length) (c := c) (i := (i : Int) + 1) (v := Yq 11 (some ⟨b, 0, none⟩) c (i + 1) (l.length - (i + 1))) hc (by rfl)) ?_
 intro p hp hr
 rcases List.mem_cons.1 hp with rfl | hp
 ·clear hp hr
  refine NE (n := l.length) (c := c) (i := i) (j := i + 1) (cells := (l.map ms).flatMap T.cells) (cells' := ((l.eraseIdx i).map ms).flatMap T.cells) hlen hc (by omega) (by omega) (AS l) (GN l i) ⟨zd, ?_⟩
  intro p hp hr
  rcases List.mem_cons.1 hp with rfl | hp
  ·clear hp hr
   refine NG ⟨zd, ?_⟩
   refine ND ?_
   have hnl : i + (l.length - (i + 1)) = (l.eraseIdx i).length := by omega
   rw [hnl]
   refine zC ?_
   refine cr <| s_ Qa <| s_ Qa <| s_ QQ <| s_ Qa <| s_ (NK (p := some ⟨b, 0, none⟩) (n := (l.eraseIdx i).length) (c := c) (i := (((l.eraseIdx i).length : Nat) : Int)) (j := ((l.length : Nat) : Int)) (v := Yq 11 (some ⟨b, 0, none⟩) c (l.eraseIdx i).length (l.length - (l.eraseIdx i).length)) (by rfl) (by omega) (by omega) (by omega)) ?_
   refine YA (W7 (n := l.length) (m := (l.eraseIdx i).length) (c := c) (kk := 11) (b := b) (e := tM) (cells := ((l.eraseIdx i).map ms).flatMap T.cells) (by rfl) zl (by simp) (by rw [XW _ (WI _), List.length_map]) (by omega) hc (by rfl) ?_)
   refine zC ?_
   refine cr <| s_ Qa <| s_ Qb <| zC ?_
   refine zR ?_
   exact rh kR ⟨_, rfl, .inr ⟨b, c, by rw [List.length_map], by rw [List.length_map]; omega, rfl⟩⟩ (Le.refl _)
  ·exact (List.not_mem_nil hp).elim
 ·rcases List.mem_cons.1 hp with rfl | hp
  ·exact tno hr
  ·exact (List.not_mem_nil hp).elim
theorem US {g : Gp} {k : Int} (h : YN g k) : k.toNat < g.way.length ∧ ((k.toNat : Nat) : Int) = k ∧ (g.way.map ms)[k.toNat]? = some (ms (g.way.getD k.toNat default)) := by
 obtain ⟨h0, h1⟩ := h
 have hk : k.toNat < g.way.length := by omega
 refine ⟨hk, by omega, ?_⟩
 rw [List.getElem?_map, List.getD_eq_getElem?_getD, List.getElem?_eq_getElem hk]
 rfl
theorem MJ {l : List Ms} {p : Option Addr} {n c : Nat} {W : Qd} (hO : OM l (.slice p n c) W) (hl : 0 < l.length) : ∃ b, p = some ⟨b, 0, none⟩ ∧ n = l.length ∧ W = [(b, ⟨tM, (l.map ms).flatMap T.cells, c * 11⟩)] := by
 rcases hO with ⟨h, _⟩ | ⟨b, c', e, hc, rfl⟩
 ·have : l = [] := by simpa using h
  rw [this] at hl; simp at hl
 ·cases e
  exact ⟨b, rfl, List.length_map _, rfl⟩
theorem IsG.out {bg : Nat} {g : Gp} {a : Nat → Ad} {bm : Nat} {es : List (Value × T × Nat)} {clk : Nat} {W : Qd} {wv : Value} {w : List Ms} (hA : E4 g.aw es) (hO : OM w wv W) : IsG bg { g with way := w } (gH bg g.conf a bm es clk W wv g.k) := ⟨a, bm, es, clk, W, wv, hA, hO, rfl⟩
theorem OA {x y : Nat × Blk} {W M : Qd} : (x :: y :: (W ++ M)).Perm (W ++ (x :: y :: M)) := by
 have := J4 (x := x) (y := y) (W := []) (M := W ++ M) (A := W) (B := M) (List.Perm.refl _)
 simpa using this
theorem Tu {z x y : Nat × Blk} {W M : Qd} : (z :: x :: y :: (W ++ M)).Perm (W ++ (z :: x :: y :: M)) :=
 (OA.cons z).trans (List.perm_middle (a := z) (l₁ := W)).symm
theorem Ez {P : Nat → En → Prop} {τ l u : Nat} (hP : PK P) (bg : Nat) (g : Gp) (H : Qd) (k : Int) (h : GB P g τ l u) (hu : u ≤ 25000) (hG : IsG bg g H) : FnH Tryz.prog 16 [pW bg, ei k] H (fun r H' => r = eB (decide (YN g k)) ∧ IsG bg (Ub g k) H') := by
 have hT := Dl bg g H k hG
 obtain ⟨a, bm, es, clk, W, wv, hA, hO, rfl⟩ := hG
 obtain ⟨p, c, rfl⟩ := hO.len
 refine fe Tryz.func16 fun S0 w0 => ?_
 show Sim _ _ [(0, pW bg), (1, ei k)] ((bg, ⟨tG, gC g.conf a bm _, 13⟩) :: (bm, ⟨.map es clk, [], 0⟩) :: (W ++ gM a g.k)) _
 refine zC ?_
 refine cr <| s_ Qb <| zC ?_
 refine cr <| s_ Qa <| s_ Qa ?_
 refine QN hT (fun r H' ⟨hr1, hr2⟩ => ?_)
 subst hr1 hr2
 refine s_ Yr <| zC ?_
 refine ci ?_ ?_
 ·intro hn
  have hno : ¬ YN g k := hn
  refine zC ?_
  refine cr <| s_ Qb <| zC ?_
  refine zR ?_
  refine rh kR ⟨rfl, ?_⟩ ?_
  ·unfold Ub; rw [if_neg hno]
   exact ⟨a, bm, es, clk, W, _, hA, hO, rfl⟩
  ·exact Le.of_eq (by show T.v (.bool false) = T.v (.bool (decide (YN g k))); rw [decide_eq_false hno])
 ·intro hn
  have hyes : YN g k := Classical.not_not.1 hn
  obtain ⟨hkl, hkn, hget⟩ := US hyes
  have hml : (g.way.map ms).length = g.way.length := List.length_map _
  have hmany := h.many
  have hfive := h.five
  have hk0 := hyes.1
  have hk1 := hyes.2
  obtain ⟨bw, rfl, _, rfl⟩ := MJ hO (by omega)
  have hmem : g.way.getD k.toNat default ∈ g.way := by
   rw [List.getD_eq_getElem?_getD, List.getElem?_eq_getElem hkl]; exact List.getElem_mem _
  have hmb := h.way _ hmem
  obtain ⟨m, hm⟩ : ∃ m, m = g.way.getD k.toNat default := ⟨_, rfl⟩
  rw [← hm] at hget hmb
  have hdel := BD g.way k.toNat hkl (by omega) hO
  rw [hkn] at hdel
  refine zC ?_
  refine cr <| s_ Qa <| s_ Qe <| s_ Qc <| s_ Qj <| s_ Qa <| s_ Y8 <| s_ (Xc (hc := Xv.flat (WI g.way) hget)) ?_
  refine X2 fun b5 _ => ?_
  refine Qz ?_
  refine zC ?_
  refine cr <| s_ Qa <| s_ Qa <| s_ Qe <| s_ Qc <| s_ Qj <| s_ Qa <| s_ Qa <| s_ Q6 ?_
  refine QV hdel Tu (fun r H' ⟨v', hr1, hO'⟩ => ?_)
  subst hr1
  refine Qy Tu.symm ?_
  obtain ⟨p', c', rfl⟩ := hO'.len
  refine s_ Qe <| s_ Qc <| Qz ?_
  refine zC ?_
  refine cr <| s_ Qa <| s_ Xc ?_
  have hgb : GB P (M7 g k) τ l u := h.out (fun x hx => h.way x (List.mem_of_mem_eraseIdx hx)) (by rw [List.length_eraseIdx, if_pos hkl]; omega)
  have htk := Eu hP bg (M7 g k) _ m hmb hgb hu (IsG.out (a := a) (bm := bm) (clk := clk) hA hO')
  refine QV (Hr := [_]) htk (List.perm_append_comm (l₁ := [_])) (fun r H' ⟨hr1, hr2⟩ => ?_)
  subst hr1
  refine zC ?_
  refine cr <| s_ Qb <| zC ?_
  refine zR ?_
  refine rhp (List.perm_append_comm (l₂ := [_])) (.skip _ _ _ kR) ⟨rfl, ?_⟩ ?_
  ·unfold Ub; rw [if_pos hyes, ← hm]; exact hr2
  ·exact Le.of_eq (by show T.v (.bool true) = T.v (.bool (decide (YN g k))); rw [decide_eq_true hyes])
end Go.Proofs.YtjbokbikkcfjjaaGreat
namespace Go.Cap
theorem CJ {es : List (Value × T × Nat)} {k : Value} (x : T) (hg : Yy es k ≠ none) (k' : Value) : Yy (WH es k x) k' = if keq k k' = true then some x else Yy es k' := by
 induction es with
 | nil => exact absurd rfl hg
 | cons e es ih =>
  rw [WH]
  by_cases h : keq e.1 k = true
  ·rw [if_pos h, Yy, Yy, UJ h]
   split <;> rfl
  ·rw [if_neg h]
   rw [Yy, if_neg h] at hg
   rw [Yy, Yy, ih hg]
   by_cases h2 : keq k k' = true
   ·have := UJ h2
    subst this
    rw [if_neg h, if_pos h2, if_pos h2]
   ·rw [if_neg h2, if_neg h2]
theorem RS {es : List (Value × T × Nat)} {k : Value} (x : T) (n : Nat) (hg : Yy es k = none) (k' : Value) : Yy (es ++ [(k, x, n)]) k' = if keq k k' = true then some x else Yy es k' := by
 induction es with
 | nil => rfl
 | cons e es ih =>
  rw [Yy] at hg
  split at hg
  ·cases hg
  ·rename_i h
   rw [List.cons_append, Yy, Yy, ih hg]
   by_cases h2 : keq k k' = true
   ·have := UJ h2
    subst this
    rw [if_neg h, if_pos h2, if_pos h2]
   ·rw [if_neg h2, if_neg h2]
end Go.Cap
namespace Go.Proofs.YtjbokbikkcfjjaaGreat
open Go.Cap
attribute [local irreducible] POp Qf Pw EOp Sim FnH T.gp
theorem E4.set {aw : List Bool} {es : List (Value × T × Nat)} (h : E4 aw es) (clk : Nat) {i : Int} (hi : isI i) (b : Bool) (hl : aw.length = 5) : ∃ es' clk', D8 es clk (.int .i64 i) (eB b) = .map es' clk' ∧ E4 (aw.set i.toNat b) es' := by
 have hI : MapKept.IsKey (.int .i64) (.int .i64 i) := rfl
 have hget : ∀ es', (∀ k', Yy es' k' = if keq (.int .i64 i) k' = true then some (eB b) else Yy es k') → ∀ j : Nat, j < 5 → (Yy es' (.int .i64 (j : Int))).getD (.v (.bool false)) = eB ((aw.set i.toNat b).getD j false) := by
  intro es' he j hj
  rw [he, List.getD_eq_getElem?_getD, List.getElem?_set]
  by_cases hij : i.toNat = j
  ·have : keq (.int .i64 i) (.int .i64 (j : Int)) = true := by simp [keq]; have := hi.1; omega
   rw [if_pos this, if_pos hij, if_pos (by omega)]; rfl
  ·have : ¬ keq (.int .i64 i) (.int .i64 (j : Int)) = true := by simp [keq]; have := hi.1; omega
   rw [if_neg this, if_neg hij, h.get j hj, List.getD_eq_getElem?_getD]
 unfold D8
 cases hg : Yy es (.int .i64 i) with
 | some y => exact ⟨_, _, rfl, h.keys.set _ _, hget _ (CJ _ (by rw [hg]; simp))⟩
 | none => exact ⟨_, _, rfl, h.keys.push hI hg _ _, hget _ (RS _ _ hg)⟩
theorem Bc {P : Nat → En → Prop} {τ l u : Nat} (bg : Nat) (g : Gp) (H : Qd) (k : Int) (h : GB P g τ l u) (hu : u ≤ 25000) (hG : IsG bg g H) : FnH Tryz.prog 14 [pW bg, ei k] H (fun r H' => r = eB (decide (YN g k)) ∧ IsG bg (Ua g k) H') := by
 have hT := Dl bg g H k hG
 obtain ⟨a, bm, es, clk, W, wv, hA, hO, rfl⟩ := hG
 obtain ⟨p, c, rfl⟩ := hO.len
 refine fe Tryz.func14 fun S0 w0 => ?_
 show Sim _ _ [(0, pW bg), (1, ei k)] ((bg, ⟨tG, gC g.conf a bm _, 13⟩) :: (bm, ⟨.map es clk, [], 0⟩) :: (W ++ gM a g.k)) _
 refine zC ?_
 refine cr <| s_ Qb <| zC ?_
 refine cr <| s_ Qa <| s_ Qa ?_
 refine QN hT (fun r H' ⟨hr1, hr2⟩ => ?_)
 subst hr1 hr2
 refine s_ Yr <| zC ?_
 refine ci ?_ ?_
 ·intro hn
  have hno : ¬ YN g k := hn
  refine zC ?_
  refine cr <| s_ Qb <| zC ?_
  refine zR ?_
  refine rh kR ⟨rfl, ?_⟩ ?_
  ·unfold Ua; rw [if_neg hno]
   exact ⟨a, bm, es, clk, W, _, hA, hO, rfl⟩
  ·exact Le.of_eq (by show T.v (.bool false) = T.v (.bool (decide (YN g k))); rw [decide_eq_false hno])
 ·intro hn
  have hyes : YN g k := Classical.not_not.1 hn
  obtain ⟨hkl, hkn, hget⟩ := US hyes
  have hmany := h.many
  have hfive := h.five
  have hk0 := hyes.1
  have hk1 := hyes.2
  have hdel := BD g.way k.toNat hkl (by omega) hO
  rw [hkn] at hdel
  refine zC ?_
  refine cr <| s_ Qa <| s_ Qa <| s_ Qe <| s_ Qc <| s_ Qj <| s_ Qa <| s_ Qa <| s_ Q6 ?_
  refine QV hdel OA (fun r H' ⟨v', hr1, hO'⟩ => ?_)
  subst hr1
  refine Qy OA.symm ?_
  obtain ⟨p', c', rfl⟩ := hO'.len
  refine s_ Qe <| s_ Qc <| Qz ?_
  refine zC ?_
  refine cr <| s_ Qb <| zC ?_
  refine zR ?_
  refine rh kR ⟨rfl, ?_⟩ ?_
  ·unfold Ua; rw [if_pos hyes]; exact IsG.out (a := a) (bm := bm) (clk := clk) hA hO'
  ·exact Le.of_eq (by show T.v (.bool true) = T.v (.bool (decide (YN g k))); rw [decide_eq_true hyes])
theorem Bf {P : Nat → En → Prop} {τ l u : Nat} (bg : Nat) (g : Gp) (H : Qd) (i : Int) (b : Bool) (h : GB P g τ l u) (hG : IsG bg g H) : FnH Tryz.prog 20 [pW bg, ei i, eB b] H (fun r H' => r = eB (decide (isI i)) ∧ IsG bg (Ll g i b) H') := by
 have hT := J6 bg g H i hG
 obtain ⟨a, bm, es, clk, W, wv, hA, hO, rfl⟩ := hG
 refine fe Tryz.func20 fun S0 w0 => ?_
 show Sim _ _ [(0, pW bg), (1, ei i), (2, eB b)] ((bg, ⟨tG, gC g.conf a bm wv, 13⟩) :: (bm, ⟨.map es clk, [], 0⟩) :: (W ++ gM a g.k)) _
 have hkeys := hA.keys
 refine zC ?_
 refine cr <| s_ Qb <| zC ?_
 refine cr <| s_ Qa <| s_ Qa ?_
 refine QN hT (fun r H' ⟨hr1, hr2⟩ => ?_)
 subst hr1 hr2
 refine s_ Yr <| zC ?_
 refine ci ?_ ?_
 ·intro hn
  have hno : ¬ isI i := hn
  refine zC ?_
  refine cr <| s_ Qb <| zC ?_
  refine zR ?_
  refine rh kR ⟨rfl, ?_⟩ ?_
  ·unfold Ll; rw [if_neg hno]
   exact ⟨a, bm, es, clk, W, _, hA, hO, rfl⟩
  ·exact Le.of_eq (by show T.v (.bool false) = T.v (.bool (decide (isI i))); rw [decide_eq_false hno])
 ·intro hn
  have hyes : isI i := Classical.not_not.1 hn
  obtain ⟨es', clk', hput, hA'⟩ := hA.set clk hyes b h.aw
  refine zC ?_
  refine cr <| s_ Qa <| s_ Qe <| s_ Qc <| s_ Qj <| s_ Qa <| s_ Qa ?_
  refine PH hkeys ?_
  refine zC ?_
  refine cr <| s_ Qb <| zC ?_
  rw [hput]
  refine zR ?_
  refine rh kR ⟨rfl, ?_⟩ ?_
  ·unfold Ll; rw [if_pos hyes]; exact ⟨a, bm, es', clk', W, wv, hA', hO, rfl⟩
  ·exact Le.of_eq (by show T.v (.bool true) = T.v (.bool (decide (isI i))); rw [decide_eq_true hyes])
theorem Ba (bg : Nat) (g : Gp) (H : Qd) (i : Int) (hi : ¬ isI i) (hG : IsG bg g H) : FnH Tryz.prog 22 [pW bg, ei i] H (fun r H' => r = .v (.pointer none) ∧ H' = H) := by
 have hT := J6 bg g H i hG
 obtain ⟨a, bm, es, clk, W, wv, hA, hO, rfl⟩ := hG
 refine fe Tryz.func22 fun S0 w0 => ?_
 show Sim _ _ [(0, pW bg), (1, ei i)] ((bg, ⟨tG, gC g.conf a bm wv, 13⟩) :: (bm, ⟨.map es clk, [], 0⟩) :: (W ++ gM a g.k)) _
 refine zC ?_
 refine cr <| s_ Qb <| zC ?_
 refine cr <| s_ Qa <| s_ Qa ?_
 refine QN hT (fun r H' ⟨hr1, hr2⟩ => ?_)
 subst hr1 hr2
 refine s_ Yr <| zC ?_
 refine ci (p := ¬ isI i) ?_ ?_
 ·intro _
  refine zC ?_
  refine cr <| s_ Qb <| zC ?_
  refine zR ?_
  exact rh kR ⟨rfl, rfl⟩ (Le.refl _)
 ·intro h; exact absurd hi h
theorem Mh (bg : Nat) (g : Gp) (i : Int) (hi : isI i) {a : Nat → Ad} {bm : Nat} {es : List (Value × T × Nat)} {clk : Nat} {W : Qd} {wv : Value} (hA : E4 g.aw es) (hO : OM g.way wv W) : FnH Tryz.prog 22 [pW bg, ei i] (gH bg g.conf a bm es clk W wv g.k) (fun r H' => r = pW (a i.toNat).bk ∧ H' = gH bg g.conf a bm es clk W wv g.k) := by
 have hT := J6 bg g _ i ⟨a, bm, es, clk, W, wv, hA, hO, rfl⟩
 refine fe Tryz.func22 fun S0 w0 => ?_
 show Sim _ _ [(0, pW bg), (1, ei i)] ((bg, ⟨tG, gC g.conf a bm wv, 13⟩) :: (bm, ⟨.map es clk, [], 0⟩) :: (W ++ gM a g.k)) _
 have hck := EC (conf := g.conf) (a := a) (bm := bm) (wv := wv) hi
 have hp : 0 ≤ i ∧ i < 5 := hi
 refine zC ?_
 refine cr <| s_ Qb <| zC ?_
 refine cr <| s_ Qa <| s_ Qa ?_
 refine QN hT (fun r H' ⟨hr1, hr2⟩ => ?_)
 subst hr1 hr2
 refine s_ Yr <| zC ?_
 refine ci (p := ¬ isI i) ?_ ?_
 ·intro h; exact absurd hi h
 ·intro _
  refine zC ?_
  refine cr <| s_ Qa <| s_ Qa <| s_ Qe <| s_ Qc <| s_ Yx <| s_ Qc <| s_ (Qj (hd := by first | rfl | assumption)) <| s_ Qb <| zC ?_
  refine zR ?_
  exact rh kR ⟨rfl, rfl⟩ (Le.refl _)
theorem R9 {P : Nat → En → Prop} {τ l u : Nat} (bg : Nat) (g : Gp) (H : Qd) (k : Int) (h : GB P g τ l u) (hu : u ≤ 25000) (hG : IsG bg g H) : FnH Tryz.prog 15 [pW bg, ei k] H (fun r H' => r = eB (decide (YN g k ∧ g.way.length < 300)) ∧ IsG bg (JX g k) H') := by
 have hT := Dl bg g H k hG
 obtain ⟨a, bm, es, clk, W, wv, hA, hO, rfl⟩ := hG
 obtain ⟨p, c, rfl⟩ := hO.len
 have hml : (g.way.map ms).length = g.way.length := List.length_map _
 refine fe Tryz.func15 fun S0 w0 => ?_
 show Sim _ _ [(0, pW bg), (1, ei k)] ((bg, ⟨tG, gC g.conf a bm _, 13⟩) :: (bm, ⟨.map es clk, [], 0⟩) :: (W ++ gM a g.k)) _
 refine zC ?_
 refine cr <| s_ Qb <| zC ?_
 refine cr <| s_ Qa <| s_ Qa ?_
 refine QN hT (fun r H' ⟨hr1, hr2⟩ => ?_)
 subst hr1 hr2
 refine s_ Yr <| s_ Qa <| gF (fun hg => Qa) ?_
 refine gF (fun hg => Qe (hx := u_ hg)) ?_
 refine gF (fun hg => Qc (hx := u_ hg)) ?_
 refine gF (fun hg => Qj (hx := u_ hg)) ?_
 refine gF (fun hg => QQ (hx := u_ hg)) ?_
 refine gF (fun hg => Vd (hx := u_ hg)) ?_
 refine s_ YK <| zC ?_
 refine ci ?_ ?_
 ·intro hn
  have hno : ¬ (YN g k ∧ g.way.length < 300) := by
   rintro ⟨h1, h2⟩
   rcases hn with h3 | h3
   ·exact h3 h1
   ·rw [hml] at h3; omega
  refine zC ?_
  refine cr <| s_ Qb <| zC ?_
  refine zR ?_
  refine rh kR ⟨rfl, ?_⟩ ?_
  ·unfold JX; rw [if_neg hno]
   exact ⟨a, bm, es, clk, W, _, hA, hO, rfl⟩
  ·exact Le.of_eq (by show T.v (.bool false) = T.v (.bool (decide (YN g k ∧ g.way.length < 300))); rw [decide_eq_false hno])
 ·intro hn
  have hyes : YN g k ∧ g.way.length < 300 := by
   refine ⟨Classical.not_not.1 fun h1 => hn (.inl h1), ?_⟩
   have : ¬ (300 : Int) ≤ ((g.way.map ms).length : Nat) := fun h1 => hn (.inr h1)
   rw [hml] at this; omega
  obtain ⟨hkl, hkn, hget⟩ := US hyes.1
  have hk0 := hyes.1.1
  have hk1 := hyes.1.2
  have hlt := hyes.2
  obtain ⟨bw, rfl, _, rfl⟩ := MJ hO (by omega)
  obtain ⟨m, hm⟩ : ∃ m, m = g.way.getD k.toNat default := ⟨_, rfl⟩
  rw [← hm] at hget
  refine zC ?_
  refine ca [0, 1, 2, 3, 4, 5, 6, 7, 8, 9, 10, 11, 12, 13, 14, 15, 16] [13, 16] <| a_ (fun _ => Qa) <| a_ (fun _ => Qa) <| a_ (fun _ => Qe) <| a_ (fun _ => Qc) <| QL ?_
  refine a_ (fun _ => Qa) <| a_ (fun _ => Qe) <| a_ (fun _ => Qc) <| QL ?_
  refine a_ (fun _ => Qa) <| a_ (fun _ => Y8) <| YI (hc := Xv.flat (WI g.way) hget) ?_
  refine a_ (fun _ => JT) ?_
  refine Tp (ho := hO) (A := [_, _]) (B := gM a g.k) (ys := [ms m]) (f := true) (WI g.way) (fun v' Hs' h3 => ⟨zd, ?_⟩)
  refine zD ?_
  obtain ⟨q', d', rfl⟩ := h3.len
  refine a_ (fun _ => Qe) <| a_ (fun _ => Qc) <| XU ?_
  apply an
  refine zC ?_
  refine cr <| s_ Qb <| zC ?_
  refine zR ?_
  refine rh kR ⟨rfl, ?_⟩ ?_
  ·unfold JX; rw [if_pos hyes, ← hm]; exact IsG.out (a := a) (bm := bm) (clk := clk) hA (by unfold OM; rw [List.map_append]; exact h3)
  ·exact Le.of_eq (by show T.v (.bool true) = T.v (.bool (decide (YN g k ∧ g.way.length < 300))); rw [decide_eq_true hyes])
theorem Mj : ∀ (A : Qd) {H : Qd}, Qi (A ++ H) H
 | [], H => kR
 | p :: A, H => .skip p _ _ (Mj A)
theorem Iy (g : Gp) (n : Nat) : JQ g (n + 1) = YT (JQ g n) := rfl
def UC (g : Gp) (k : Nat) : Gp := (g.way.take k).foldl X3 { g with way := [] }
theorem E6 (g : Gp) {k : Nat} (hk : k < g.way.length) : UC g (k + 1) = X3 (UC g k) (g.way.getD k default) := by
 unfold UC
 rw [List.take_succ_eq_append_getElem hk, List.foldl_append, List.getD_eq_getElem?_getD, List.getElem?_eq_getElem hk]
 rfl
theorem Rl (g : Gp) : UC g g.way.length = g.way.foldl X3 { g with way := [] } := by unfold UC; rw [List.take_length]
theorem WW {P : Nat → En → Prop} {τ l u : Nat} (hP : PK P) (bg : Nat) (g : Gp) (H : Qd) (r : Int) (n : Nat) (hn : min (max r 0) 200 = (n : Int)) (h : GB P g τ l u) (hu : u + 5 * n ≤ 25000) (hG : IsG bg g H) : FnH Tryz.prog 11 [pW bg, ei r] H (fun r H' => r = .tup [] ∧ IsG bg (JQ g n) H') := by
 refine fe Tryz.func11 fun S0 w0 => ?_
 show Sim _ _ [(0, pW bg), (1, ei r)] H _
 refine zC ?_
 refine cr <| s_ Qa <| s_ V1 <| s_ LD <| s_ Qa <| zC ?_
 rw [hn]
 apply Qp (σ := Nat × Qd) (ok := fun s => s.1 ≤ n ∧ IsG bg (JQ g s.1) s.2) (env := fun s => [(11, ei s.1), (10, ei n), (0, pW bg)]) (heap := fun s => s.2) (μ := fun s => n - s.1) (s0 := (0, H))
 ·exact ⟨Nat.zero_le _, hG⟩
 ·exact eL
 ·exact kR
 rintro ⟨j, H⟩ ⟨hj, hG⟩
 simp only at hj hG
 show Sim _ _ [(11, ei j), (10, ei n), (0, pW bg)] H _
 obtain ⟨l0, hgb, _⟩ := h.calm hP.toPO j (by have := h.tau; omega)
 obtain ⟨g0, hg0⟩ : ∃ g0, g0 = JQ g j := ⟨_, rfl⟩
 rw [← hg0] at hG hgb
 have hu0 : u + 5 * j + 5 ≤ 25000 ∨ j = n := by omega
 have ht0 := hgb.tau
 refine zC ?_
 refine cr <| s_ Q2 <| zC ?_
 refine ci ?_ ?_
 ·intro hlt
  have hjn : j < n := by omega
  have hu1 : u + 5 * j + 5 ≤ 25000 := by omega
  obtain ⟨a, bm, es, clk, W, wv, hA, hO, rfl⟩ := hG
  obtain ⟨p, c, rfl⟩ := hO.len
  have hml : (g0.way.map ms).length = g0.way.length := List.length_map _
  show Sim _ _ _ ((bg, ⟨tG, gC g0.conf a bm _, 13⟩) :: (bm, ⟨.map es clk, [], 0⟩) :: (W ++ gM a g0.k)) _
  refine zC ?_
  refine cr <| s_ Qa <| s_ Qe <| s_ Qc <| s_ Qj <| s_ Qb <| zC ?_
  refine cr <| s_ Qa <| s_ Qe <| s_ Qc <| Qz ?_
  refine zC ?_
  refine cr <| s_ Qa <| s_ QQ <| s_ Qa <| zC ?_
  refine XS (H' := W ++ gH bg g0.conf a bm es clk [] (.slice none 0 0) g0.k) ?_ ?_
  ·exact OA
  apply Qp (σ := Nat × Qd) (ok := fun s => s.1 ≤ g0.way.length ∧ IsG bg (UC g0 s.1) s.2) (env := fun s => [(22, ei s.1), (21, ei g0.way.length), (20, .v (.slice p (g0.way.map ms).length c)), (11, ei j), (10, ei n), (0, pW bg)]) (heap := fun s => W ++ s.2) (μ := fun s => g0.way.length - s.1) (s0 := (0, gH bg g0.conf a bm es clk [] (.slice none 0 0) g0.k))
  ·exact ⟨Nat.zero_le _, IsG.out (a := a) (bm := bm) (clk := clk) (w := []) hA Zk⟩
  ·refine ⟨?_, ?_, eL⟩
   ·apply Qh; (exact zG)
    exact Le.refl _
   ·apply Qh; (exact zG)
    exact Le.of_eq (by rw [hml]; rfl)
  ·exact kR
  ·rintro ⟨k, H⟩ ⟨hk, hG⟩
   simp only at hk hG
   show Sim _ _ [(22, ei k), (21, ei g0.way.length), (20, .v (.slice p (g0.way.map ms).length c)), (11, ei j), (10, ei n), (0, pW bg)] (W ++ H) _
   refine zC ?_
   refine cr <| s_ Q2 <| zC ?_
   refine ci ?_ ?_
   ·intro hlt2
    have hkl : k < g0.way.length := by omega
    have hmany := hgb.many
    have hfive := hgb.five
    have hhas : YN g0 (k : Int) := ⟨by omega, by omega⟩
    obtain ⟨_, hkn, hget⟩ := US hhas
    obtain ⟨bw, rfl, _, rfl⟩ := MJ hO (by omega)
    obtain ⟨m, hm⟩ : ∃ m, m = g0.way.getD k default := ⟨_, rfl⟩
    have hmem : g0.way.getD k default ∈ g0.way := by
     rw [List.getD_eq_getElem?_getD, List.getElem?_eq_getElem hkl]; exact List.getElem_mem _
    obtain ⟨lk, hgk, hlk⟩ := GB.takes hP.toPO (by omega) (g0.way.take k) (hgb.out (w := []) (by simp) (by simp)) (fun x hx => hgb.way x (List.mem_of_mem_take hx)) (by have := hgb.many; rw [List.length_take]; simp only [List.length_nil]; omega)
    have hmb := (hgb.way _ hmem).le (Nat.le_refl _) hlk
    have htk := Eu hP bg (UC g0 k) H m (by rw [hm]; exact hmb) hgk (by omega) hG
    rw [show ((k : Int).toNat) = k by omega, ← hm] at hget
    show Sim _ _ _ ((bw, ⟨tM, (g0.way.map ms).flatMap T.cells, c * 11⟩) :: H) _
    refine zC ?_
    refine cr <| s_ Y8 <| s_ (Xc (hc := Xv.flat (WI g0.way) hget)) ?_
    refine X2 fun b6 _ => ?_
    refine Qz ?_
    refine zC ?_
    refine cr <| s_ Qa <| s_ Xc ?_
    refine QV (Hr := [_, _]) htk (List.perm_append_comm (l₁ := [_, _])) (fun r H' ⟨hr1, hr2⟩ => ?_)
    subst hr1
    refine Qy (List.perm_append_comm (l₂ := [_, _])) ?_
    refine zC ?_
    refine cr <| s_ Q6 <| s_ Qa <| zC ?_
    refine ⟨(k + 1, H'), ⟨by simp only; omega, ?_⟩, (by simp only []; omega), ⟨?_, eL⟩, ?_⟩
    ·simp only
     rw [E6 _ hkl, ← hm]; exact hr2
    ·apply Qh; (exact zG)
     exact Le.refl _
    ·exact .skip _ _ _ kR
   ·intro hge
    have hke : k = g0.way.length := by omega
    subst hke
    rw [Rl] at hG
    obtain ⟨l1, hg1, hl1⟩ := GB.takes hP.toPO (by omega) g0.way (hgb.out (w := []) (by simp) (by simp)) hgb.way (by simpa using hgb.many)
    obtain ⟨g1, hg1e⟩ : ∃ g1, g1 = g0.way.foldl X3 { g0 with way := [] } := ⟨_, rfl⟩
    rw [← hg1e] at hG hg1
    refine zC ?_
    refine cr <| s_ Qa <| zC ?_
    apply Qp (σ := Nat × Qd) (ok := fun s => s.1 ≤ 5 ∧ IsG bg (Z2 g1 s.1) s.2) (env := fun s => [(30, ei s.1), (11, ei j), (10, ei n), (0, pW bg)]) (heap := fun s => s.2) (μ := fun s => 5 - s.1) (s0 := (0, H))
    ·exact ⟨Nat.zero_le _, hG⟩
    ·exact eL
    ·exact Mj W
    ·rintro ⟨q, H⟩ ⟨hq, hG⟩
     simp only at hq hG
     show Sim _ _ [(30, ei q), (11, ei j), (10, ei n), (0, pW bg)] H _
     refine zC ?_
     refine cr <| s_ Q2 <| zC ?_
     refine ci ?_ ?_
     ·intro hlt3
      have hq5 : q < 5 := by omega
      obtain ⟨lq, hgq, _⟩ := hg1.ticks hP.toPO q (by omega)
      have htk := Et hP bg (Z2 g1 q) H q hgq (by omega) hG
      refine zC ?_
      refine cr <| s_ Qa <| s_ Qb <| zC ?_
      refine cr <| s_ Qa <| s_ Qa ?_
      refine QN htk (fun r H' ⟨hr1, hr2⟩ => ?_)
      subst hr1
      refine zC ?_
      refine cr <| s_ Q6 <| s_ Qa <| zC ?_
      refine ⟨(q + 1, H'), ⟨by simp only; omega, ?_⟩, (by simp only []; omega), ⟨?_, eL⟩, kR⟩
      ·simp only
       rw [JA]; exact hr2
      ·apply Qh; (exact zG)
       exact Le.refl _
     ·intro hge3
      have hq5 : q = 5 := by omega
      subst hq5
      refine zC ?_
      refine cr <| s_ Q6 <| s_ Qa <| zC ?_
      refine ⟨(j + 1, H), ⟨by simp only; omega, ?_⟩, (by simp only []; omega), ⟨?_, eL⟩, kR⟩
      ·simp only
       rw [Iy, ← hg0]
       unfold YT
       rw [← hg1e]; exact hG
      ·apply Qh; (exact zG)
       exact Le.refl _
 ·intro hge
  have hje : j = n := by omega
  subst hje
  refine zC ?_
  refine rhn kR ⟨rfl, ?_⟩ (Le.refl _)
  rw [← hg0]; exact hG
end Go.Proofs.YtjbokbikkcfjjaaGreat
namespace Go.Cap
theorem FnH.framed {P : Program} {f : FuncId} {args : List T} {H Hs Hr : Qd} {Φ Ψ : T → Qd → Prop} (hf : FnH P f args Hs Φ) (hp : H.Perm (Hs ++ Hr)) (hΦ : ∀ r H1, Φ r H1 → ∃ H', (H1 ++ Hr).Perm H' ∧ Ψ r H') : FnH P f args H Ψ := by
 intro S w vs hw ho hr
 have hoP := ho.perm hp
 refine (hf S w vs hw hoP.left hr).mono ?_
 rintro e w' ⟨u, S', r, H1, rfl, hΦ', hrel, hown, hst, hkeys⟩
 obtain ⟨H', hP, hΨ⟩ := hΦ r H1 hΦ'
 have hsS : ∀ b ∈ keys Hs, ¬ S b := hoP.left.apart
 have hm := hst.mono hw hsS
 have hownA : Own S' w' (H1 ++ Hr) := by
  refine ⟨?_, ?_, ?_⟩
  ·rw [Ql]
   refine List.nodup_append.2 ⟨hown.nodup, hoP.right.nodup, fun b hb c hc' e => ?_⟩
   subst e
   rcases hkeys b hb with h1 | h1
   ·exact hoP.disj b h1 hc'
   ·have := hoP.right.lt b hc'; omega
  ·intro b hb hS
   rw [Ql] at hb
   rcases List.mem_append.1 hb with hb | hb
   ·exact hown.apart b hb hS
   ·rcases hst.new b hS with h1 | h1 | h1
    ·exact hoP.right.apart b hb h1
    ·have := hoP.right.lt b hb; omega
    ·exact hoP.disj b h1 hb
  ·intro p hp'
   rcases List.mem_append.1 hp' with hp' | hp'
   ·exact hown.has p hp'
   ·have hk' : p.1 ∈ keys Hr := List.mem_map.2 ⟨p, hp', rfl⟩
    have h1 := hoP.right.has p hp'
    exact h1.mono (hst.keep _ h1.lt (fun h => hoP.disj _ h hk')) hm
 have hkp : ∀ b, b ∈ keys H ↔ b ∈ keys (Hs ++ Hr) := fun b => (Zu hp).mem_iff
 refine ⟨u, S', r, H', rfl, hΨ, hrel, hownA.perm hP, hst.weaken fun b hb => .inl ((hkp b).2 (by rw [Ql]; exact List.mem_append_left _ hb)), fun b hb => ?_⟩
 have hb' : b ∈ keys (H1 ++ Hr) := (Zu hP).mem_iff.2 hb
 rw [Ql] at hb'
 rcases List.mem_append.1 hb' with h | h
 ·rcases hkeys b h with h1 | h1
  ·exact .inl ((hkp b).2 (by rw [Ql]; exact List.mem_append_left _ h1))
  ·exact .inr h1
 ·exact .inl ((hkp b).2 (by rw [Ql]; exact List.mem_append_right _ h))
end Go.Cap
namespace Go.Proofs.YtjbokbikkcfjjaaGreat
open Go.Cap
attribute [local irreducible] POp Qf Pw EOp Sim FnH T.gp
theorem GB.waits {P : Nat → En → Prop} {g : Gp} {τ l u : Nat} (hP : PO P) (h : GB P g τ l u) (hu : u + 5 ≤ 25000) : ∃ τ' l', GB P (YT g) τ' l' (u + 5) := by
 have := h.tau
 obtain ⟨l', h1, _⟩ := h.round hP (by omega)
 exact ⟨_, l', h1⟩
theorem J5 {bg : Nat} {g : Gp} {a : Nat → Ad} {bm : Nat} {es : List (Value × T × Nat)} {clk : Nat} {W : Qd} {wv : Value} {i : Nat} (hi : i < 5) (hl : (g.k i).N.log.length ≤ 1000000000) :
  FnH Tryz.prog 23 [pW (a i).bk] (gH bg g.conf a bm es clk W wv g.k) (fun r H' => r = nd (g.k i).N ∧ H' = gH bg g.conf a bm es clk W wv g.k) := by
 have hk := CX (a i).bk (a i).bj (a i).bd (g.k i) hl
 have hperm := J4 (x := (bg, ⟨tG, gC g.conf a bm wv, 13⟩)) (y := (bm, ⟨.map es clk, [], 0⟩)) (W := W) (Vi a g.k hi)
 exact FnH.framed hk hperm (fun r H1 ⟨h1, h2⟩ => ⟨_, by rw [h2]; exact hperm.symm, h1, rfl⟩)
theorem Mg (bg : Nat) (H : Qd) (i index e : Int) (he : ¬ e = 0) : FnH Tryz.prog 40 [pW bg, ei i, ei index, ei e] H (fun r H' => r = ei e ∧ H' = H) := by
 refine fe Tryz.func40 fun S0 w0 => ?_
 show Sim _ _ [(0, pW bg), (1, ei i), (2, ei index), (3, ei e)] H _
 refine zC ?_
 refine cr <| s_ Qb <| zC ?_
 refine cr <| s_ Qa <| s_ Yg <| zC ?_
 refine ci ?_ ?_
 ·intro _
  refine zC ?_
  refine cr <| s_ Qa <| s_ Qb <| zC ?_
  refine zR ?_
  exact rh kR ⟨rfl, rfl⟩ (Le.refl _)
 ·intro h; exact absurd he h
theorem Bz {n : Nd} {k : Nat} (hk : k < n.log.length) : n.log[k].term = (n.log.getD k default).term := by
 rw [List.getD_eq_getElem?_getD, List.getElem?_eq_getElem hk]; rfl
theorem Es {P : Nat → En → Prop} {τ l u : Nat} (hP : PK P) (bg : Nat) (g : Gp) (H : Qd) (i index : Int) (hi : isI i) (h : GB P g τ l u) (hu : u + 200 ≤ 25000) (hx0 : 0 ≤ index) (hx1 : index ≤ 1000000) (hG : IsG bg g H) :
  FnH Tryz.prog 40 [pW bg, ei i, ei index, ei 0] H (fun r H' => r = ei (Y3 i.toNat index (g.k i.toNat).N.term 40 g).2 ∧ IsG bg (Y3 i.toNat index (g.k i.toNat).N.term 40 g).1 H') := by
 have hp5 : 0 ≤ i ∧ i < 5 := hi
 obtain ⟨h5, _⟩ := Q3 hi
 have hlenB : ∀ {g' : Gp} {τ' l' u' : Nat}, GB P g' τ' l' u' → u' ≤ 25000 → (g'.k i.toNat).N.log.length ≤ 5000 := fun hb hu' => by have := (hb.nb _ h5).len; have := hb.five; omega
 obtain ⟨term, hterm⟩ : ∃ term, term = (g.k i.toNat).N.term := ⟨_, rfl⟩
 rw [← hterm]
 obtain ⟨a, bm, es, clk, W, wv, hA, hO, rfl⟩ := hG
 have hno := J5 (bg := bg) (g := g) (a := a) (bm := bm) (es := es) (clk := clk) (W := W) (wv := wv) h5 (by have := hlenB h (by omega); omega)
 have hck := EC (conf := g.conf) (a := a) (bm := bm) (wv := wv) hi
 refine fe Tryz.func40 fun S0 w0 => ?_
 show Sim _ _ [(0, pW bg), (1, ei i), (2, ei index), (3, ei 0)] ((bg, ⟨tG, gC g.conf a bm wv, 13⟩) :: (bm, ⟨.map es clk, [], 0⟩) :: (W ++ gM a g.k)) _
 refine zC ?_
 refine cr <| s_ Qb <| zC ?_
 refine cr <| s_ Qa <| s_ Yg <| zC ?_
 refine ci (p := ¬ (0 : Int) = 0) (fun h => absurd rfl h) (fun _ => ?_)
 refine zC ?_
 refine cr <| s_ Qa <| s_ Qa <| s_ Qe <| s_ Qc <| s_ Yx <| s_ Qc <| s_ (Qj (hd := by first | rfl | assumption)) ?_
 refine QN hno (fun r H' ⟨hr1, hr2⟩ => ?_)
 subst hr1 hr2
 refine s_ NS <| s_ Qb <| zC ?_
 refine cr <| s_ Qb <| zC ?_
 apply Qp (σ := Nat × Gp × Qd) (ok := fun s => s.1 ≤ 40 ∧ (∃ τ' l', GB P s.2.1 τ' l' (u + 5 * s.1)) ∧ IsG bg s.2.1 s.2.2 ∧ Y3 i.toNat index term 40 g = Y3 i.toNat index term (40 - s.1) s.2.1) (env := fun s => [(10, ei s.1), (9, ei term), (0, pW bg), (1, ei i), (2, ei index)]) (heap := fun s => s.2.2) (μ := fun s => 40 - s.1) (s0 := (0, g, gH bg g.conf a bm es clk W wv g.k))
 ·exact ⟨Nat.zero_le _, ⟨τ, l, h⟩, ⟨a, bm, es, clk, W, wv, hA, hO, rfl⟩, rfl⟩
 ·refine ⟨?_, ?_, eL⟩
  ·apply Qh; (exact zG)
   exact Le.refl _
  ·apply Qh; (exact zG)
   exact Le.of_eq (by rw [hterm])
 ·exact kR
 clear hA hO hno hck
 rintro ⟨k, g1, H⟩ ⟨hk, ⟨τ1, l1, hb⟩, hG, hW⟩
 simp only at hk hb hG hW
 have hlen := hlenB hb (by omega)
 obtain ⟨a, bm, es, clk, W, wv, hA, hO, rfl⟩ := hG
 have hno := J5 (bg := bg) (g := g1) (a := a) (bm := bm) (es := es) (clk := clk) (W := W) (wv := wv) h5 (by omega)
 have hck := EC (conf := g1.conf) (a := a) (bm := bm) (wv := wv) hi
 obtain ⟨n, hn⟩ : ∃ n, n = (g1.k i.toNat).N := ⟨_, rfl⟩
 have hnb := hb.nb _ h5
 rw [← hn] at hno hlen hnb
 have hbase := hnb.base
 show Sim _ _ [(10, ei k), (9, ei term), (0, pW bg), (1, ei i), (2, ei index)] ((bg, ⟨tG, gC g1.conf a bm wv, 13⟩) :: (bm, ⟨.map es clk, [], 0⟩) :: (W ++ gM a g1.k)) _
 refine zC ?_
 refine cr <| s_ Qa <| s_ Qa <| s_ Qe <| s_ Qc <| s_ Yx <| s_ Qc <| s_ (Qj (hd := by first | rfl | assumption)) ?_
 refine QN hno (fun r H' ⟨hr1, hr2⟩ => ?_)
 subst hr1 hr2
 show Qf _ _ _ _ _ ((bg, ⟨tG, gC g1.conf a bm wv, 13⟩) :: (bm, ⟨.map es clk, [], 0⟩) :: (W ++ gM a g1.k)) _
 refine X2 fun b11 _ => ?_
 refine Qz ?_
 refine zC ?_
 refine cr <| s_ Qa <| s_ Qc <| s_ Qj <| s_ ZF <| s_ ZF <| s_ Qb <| zC ?_
 refine cr <| s_ Qc <| s_ Qj <| s_ Qa <| s_ Vd <| zC ?_
 refine ci ?_ ?_
 ·intro hc
  have hc' : index ≤ (g1.k i.toNat).N.commit := by rw [← hn]; exact hc
  have hw1 : Y3 i.toNat index term (40 - k) g1 = (g1, LS n index term) := by
   rw [hn]
   cases 40 - k with
   | zero => unfold Y3; rw [if_pos hc']
   | succ f => unfold Y3; rw [if_pos hc']
  rw [hW, hw1]
  obtain ⟨v, hv⟩ : ∃ v, v = index - n.base - 1 := ⟨_, rfl⟩
  by_cases hr : 0 ≤ v ∧ v < n.log.length
  ·have hix : v.toNat < n.log.length := by omega
   have hr' : 0 ≤ v ∧ v < ((n.log.map een).length : Nat) := by rw [List.length_map]; exact hr
   rw [← hv]
   refine zC ?_
   refine cr <| s_ Qa <| s_ Vd <| s_ Qa <| gT (fun hg => Qa) ?_
   refine gT (fun hg => Qc) ?_
   refine gT (fun hg => Qj (hx := u_ hg)) ?_
   (first | refine gT (fun hg => QX (hx := u_ hg)) ?_ | refine gT (fun hg => QQ (hx := u_ hg)) ?_)
   refine gT (fun hg => Q2 (hx := u_ hg) (hy := u_ hg)) ?_
   refine s_ Yh <| s_ Qa <| gT (fun hg => Qc) ?_
   refine gT (fun hg => Qj (hx := u_ hg)) ?_
   refine gT (fun hg => Qa) ?_
   (first | refine gT (fun hg => Xh hix (hx := u_ hg) (hy := u_ hg)) ?_ | refine gT (fun hg => Xh hix2 (hx := u_ hg) (hy := u_ hg)) ?_ | refine gT (fun hg => YM (hx := u_ hg) (hy := u_ hg)) ?_ | refine gT (fun hg => Y8 (hx := u_ hg) (hy := u_ hg)) ?_)
   (first | refine gT (fun hg => Qu (hx := u_ hg)) ?_ | refine gT (fun hg => Qc (hx := u_ hg)) ?_)
   (first | refine gT (fun hg => Qm (hx := u_ hg)) ?_ | refine gT (fun hg => Qj (hx := u_ hg)) ?_)
   refine gT (fun hg => Qa) ?_
   refine gT (fun hg => Xi (hx := u_ hg) (hy := u_ hg)) ?_
   refine s_ Yh <| zC ?_
   refine ci ?_ ?_
   ·intro ht
    refine zC ?_
    refine cr <| s_ Qb <| zC ?_
    refine zR ?_
    refine rh (.skip _ _ _ kR) ⟨rfl, a, bm, es, clk, W, wv, hA, hO, rfl⟩ ?_
    refine Le.of_eq (congrArg ei ?_)
    unfold LS
    rw [← hv, if_pos ⟨hr.1, hr.2, by rw [← Bz hix]; exact ht.2⟩]
   ·intro ht
    refine zC ?_
    refine cr <| s_ Qb <| zC ?_
    refine zR ?_
    refine rh (.skip _ _ _ kR) ⟨rfl, a, bm, es, clk, W, wv, hA, hO, rfl⟩ ?_
    refine Le.of_eq (congrArg ei ?_)
    unfold LS
    rw [← hv, if_neg (fun h1 => ht ⟨hr', by rw [Bz hix]; exact h1.2.2⟩)]
  ·have hno' : ¬ (0 ≤ v ∧ v < ((n.log.map een).length : Nat)) := by rw [List.length_map]; exact hr
   rw [← hv]
   refine zC ?_
   refine cr <| s_ Qa <| s_ Vd <| s_ Qa <| gT (fun hg => Qa) ?_
   refine gT (fun hg => Qc) ?_
   refine gT (fun hg => Qj (hx := u_ hg)) ?_
   (first | refine gT (fun hg => QX (hx := u_ hg)) ?_ | refine gT (fun hg => QQ (hx := u_ hg)) ?_)
   refine gT (fun hg => Q2 (hx := u_ hg) (hy := u_ hg)) ?_
   refine s_ Yh <| s_ Qa ?_
   (repeat (refine gT (p := 0 ≤ v ∧ v < ((n.log.map een).length : Nat)) (d := .v (.bool (decide False))) (fun hg => absurd hg hno') ?_))
   refine s_ Yh <| zC ?_
   refine ci (p := (0 ≤ v ∧ v < ((n.log.map een).length : Nat)) ∧ False) (fun h => h.2.elim) (fun _ => ?_)
   refine zC ?_
   refine cr <| s_ Qb <| zC ?_
   refine zR ?_
   refine rh (.skip _ _ _ kR) ⟨rfl, a, bm, es, clk, W, wv, hA, hO, rfl⟩ ?_
   refine Le.of_eq (congrArg ei ?_)
   unfold LS
   rw [← hv, if_neg (fun h1 => hr ⟨h1.1, h1.2.1⟩)]
 intro hc
 have hc' : ¬ index ≤ (g1.k i.toNat).N.commit := by rw [← hn]; exact hc
 refine zC ?_
 refine cr <| s_ Qa <| s_ Xi <| zC ?_
 refine ci ?_ ?_
 ·intro h40
  have hk40 : k = 40 := by omega
  subst hk40
  have hw1 : Y3 i.toNat index term (40 - 40) g1 = (g1, 22) := by
   show Y3 i.toNat index term 0 g1 = _
   unfold Y3; rw [if_neg hc']
  rw [hW, hw1]
  refine zC ?_
  refine cr <| s_ Qb <| zC ?_
  refine zR ?_
  exact rh (.skip _ _ _ kR) ⟨rfl, a, bm, es, clk, W, wv, hA, hO, rfl⟩ (Le.refl _)
 ·intro h40
  have hk40 : k < 40 := by omega
  have hcm := WW hP bg g1 _ 1 1 (by omega) hb (by omega) ⟨a, bm, es, clk, W, wv, hA, hO, rfl⟩
  obtain ⟨τ2, l2, hb2⟩ := hb.waits hP.toPO (by omega)
  have hw1 : Y3 i.toNat index term (40 - k) g1 = Y3 i.toNat index term (40 - (k + 1)) (YT g1) := by
   obtain ⟨f, hf⟩ : ∃ f, 40 - k = f + 1 := ⟨40 - k - 1, by omega⟩
   rw [hf, show 40 - (k + 1) = f by omega]
   conv => lhs; unfold Y3
   rw [if_neg hc']
  refine zC ?_
  refine cr <| s_ Qa ?_
  refine QV (Hr := [_]) hcm (List.perm_append_comm (l₁ := [_])) (fun r H' ⟨hr1, hr2⟩ => ?_)
  subst hr1
  refine Qy (List.perm_append_comm (l₂ := [_])) ?_
  refine zC ?_
  refine cr <| s_ Qa <| s_ Q6 <| s_ Qb <| zC ?_
  refine ⟨(k + 1, YT g1, H'), ⟨by simp only; omega, ⟨τ2, l2, ?_⟩, hr2, ?_⟩, (by simp only []; omega), ⟨?_, eL⟩, .skip _ _ _ kR⟩
  ·simp only
   have e : u + 5 * k + 5 = u + 5 * (k + 1) := by omega
   rw [← e]; exact hb2
  ·simp only
   rw [hW, hw1]
  ·apply Qh; (exact zG)
   exact Le.refl _
end Go.Proofs.YtjbokbikkcfjjaaGreat
