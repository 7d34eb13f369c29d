/-
  More rules: 'append', and slices cut.
-/
import Derived.Test.YtjbokbikkcfjjaaGreatAad
set_option maxRecDepth 16000
set_option maxHeartbeats 8000000
set_option linter.all false
namespace Go.Cap
section
variable {K : Ctx} {P : Program} {t : Env} {H : Qc} {dst : Option Tmp} {tp : TypeId} {pos : String} {aft : Array Edge} {g : Option (Nat × Bool)} {N : Env → Qc → Prop}
variable {S : Nat → Prop} {w : World} {ty ty' : TypeId}
theorem JF {e e' : TypeId} {i : TypeInfo} {z : Value} (hu : P.underlying ty = some (.slice e)) (hu' : P.underlying ty' = some (.slice e')) (hi : P.info? e = some i) (hz : i.zero = some z)
  {a : Option Addr} {n c m : Nat} {y : Value} {olds news : List Value}
  (hl : (Builtin.lenOf y).run P w = .ok m w) (hc : c < n + m) (hb : (n + m) * i.bytes ≤ 140737488355328) (hmx : n + m ≤ 9223372036854775807)
  (ho : (Builtin.firstCells i.size n (.slice a n c)).run P w.drew = .ok olds.toArray w.drew) (hn : (Builtin.firstCells i.size m y).run P w.drew = .ok news.toArray w.drew) :
  (Builtin.append_ #[ty, ty'] tp #[.slice a n c, y]).run P w = .ok (.slice (some ⟨w.heap.size, 0, none⟩) (n + m) (grownCap w (n + m) c e))
   (w.drew.alloc (.cells (olds.toArray ++ news.toArray ++ Builtin.zeroCells z.cells (grownCap w (n + m) c e - (n + m))) e)) := by
 have h1 : ¬ (n + m ≤ c) := by omega
 have h63' : ¬ (9223372036854775807 < ((n : Int) + (m : Int))) := by omega
 have h48' : ¬ (281474976710656 < Builtin.nextslicecap (n + m) c * i.bytes) := by have := growslice_fits hc hb; omega
 simp [Builtin.append_, run_underlying hu, run_underlying hu', sizeOf, typeInfo, zeroValue, hi, hz, hl, h1, h63', h48', Question.forced, ho, hn, newRow, grownCap]
 congr 2
 apply Array.ext'
 simp [List.append_assoc]
theorem MS {e e' : TypeId} {i : TypeInfo} (hu : P.underlying ty = some (.slice e)) (hu' : P.underlying ty' = some (.slice e')) (hi : P.info? e = some i)
  {b o n c m : Nat} {y : Value} {news : List Value} {w' : World}
  (hl : (Builtin.lenOf y).run P w = .ok m w) (hc : n + m ≤ c) (hn : (Builtin.firstCells i.size m y).run P w = .ok news.toArray w)
  (hs : (storeCells ⟨b, o + n * i.size, none⟩ news).run P w = .ok () w') :
  (Builtin.append_ #[ty, ty'] tp #[.slice (some ⟨b, o, none⟩) n c, y]).run P w = .ok (.slice (some ⟨b, o, none⟩) (n + m) c) w' := by
 simp [Builtin.append_, run_underlying hu, run_underlying hu', sizeOf, typeInfo, hi, hl, hc, hn, Addr.add_mk, hs]
theorem Jg {e e' : TypeId} {i : TypeInfo} (hu : P.underlying ty = some (.slice e)) (hu' : P.underlying ty' = some (.slice e')) (hi : P.info? e = some i)
  {a : Option Addr} {n c : Nat} {y : Value}
  (hl : (Builtin.lenOf y).run P w = .ok 0 w) (hc : n ≤ c) (hn : (Builtin.firstCells i.size 0 y).run P w = .ok #[] w) :
  (Builtin.append_ #[ty, ty'] tp #[.slice a n c, y]).run P w = .ok (.slice a n c) w := by
 cases a with
 | none => simp [Builtin.append_, run_underlying hu, run_underlying hu', sizeOf, typeInfo, hi, hl, hc, hn]
 | some a => simp [Builtin.append_, run_underlying hu, run_underlying hu', sizeOf, typeInfo, hi, hl, hc, hn, storeCells]
theorem Xw {f : Bool} {xs : List T} {u : Value} (h : Rel S w (.sl f xs) u) : ∃ a c, u = .slice a xs.length c ∧ xs.length ≤ c ∧ (f = true → c = xs.length) := by
 cases h with
 | nil _ p c hf => exact ⟨p, c, rfl, Nat.zero_le _, fun e => by rw [hf e]; rfl⟩
 | sl _ _ b o cap vs k' cs ty fz hS hb hr hg hf hc => rw [← hr.length]; exact ⟨_, _, rfl, hc, hf⟩
theorem X5 (h : Wf S w) (F : List Nat) : QN F S w S w.drew := ⟨rfl, rfl, rfl, Nat.le_refl _, fun _ _ _ => rfl, fun _ h => h, fun _ h => .inl h, h⟩
theorem Xu : ∀ b, S b → S b ∧ w.drew.heap[b]? = w.heap[b]? := fun _ h => ⟨h, rfl⟩
theorem E2 (h : Wf S w) : Wf S w.drew := h
theorem Eh {x y : Operand} {xs ys : List T} {f : Bool} {dx dy : T} {d : T} {by_ : Nat} (hx : t.ev x = dx) (hxl : Le dx (.sl true xs)) (hy : t.ev y = dy) (hyl : Le dy (.sl f ys)) [hz : QL P ty d by_] (hs : QR P ty' = true)
  (hkx : ∀ x ∈ xs, x.cells.length = d.cells.length) (hky : ∀ x ∈ ys, x.cells.length = d.cells.length) (hb : (xs.length + ys.length) * by_ ≤ 140737488355328) (hm : xs.length + ys.length ≤ 9223372036854775807) :
  POp P t H ⟨dst, .call ⟨.builtin .append, #[x, y], #[ty, ty']⟩, tp, pos, aft, g⟩ (.sl false (xs ++ ys)) :=
 POp.run fun S w a hw _ hr => by
  have h1 := hr x (by simp [Op.operands, Call.operands]); rw [hx] at h1
  have h2 := hr y (by simp [Op.operands, Call.operands]); rw [hy] at h2
  replace h1 := hxl _ _ _ h1
  replace h2 := hyl _ _ _ h2
  obtain ⟨e, i, z, hu, hi, hzz, hsz, hp, rfl, hby⟩ := Yx hz.h
  obtain ⟨e', _, hu', _⟩ := YU hs
  have hl := Xl z
  have hk0 : 0 < (T.ofVal z).cells.length := by omega
  obtain ⟨a1, c1, he1, hc1, hf1⟩ := Xw h1
  have hc1' := hf1 rfl
  have e1 : (execOp a.eval ⟨dst, .call ⟨.builtin .append, #[x, y], #[ty, ty']⟩, tp, pos, aft, g⟩).run P w = ((Builtin.append_ #[ty, ty'] tp #[a.eval x, a.eval y]).run P w).andThen fun v w' => .ok (.value v) w' := by
   simp [execOp, resolve, invoke, builtin]
  rw [e1, he1]
  rw [he1] at h1
  have hlen := Zd (P := P) h2
  rcases Nat.eq_zero_or_pos ys.length with h0 | h0
  ·have hys : ys = [] := List.length_eq_zero_iff.1 h0
   subst hys
   obtain ⟨us, hus, hrel, hul⟩ := Yk (P := P) h2 hky hk0 0 (Nat.zero_le _)
   have hus0 : us = [] := List.length_eq_zero_iff.1 (by omega)
   subst hus0
   rw [Jg hu hu' hi hlen hc1 (by rw [hsz, ← hl]; exact hus)]
   refine ⟨_, w, S, rfl, QN.refl _ hw, ?_⟩
   rw [List.append_nil]
   exact Le.full xs false _ _ _ h1
  ·have h1d : Rel S w.drew (.sl true xs) (.slice a1 xs.length c1) := h1.mono Xu
   have h2d : Rel S w.drew (.sl f ys) (a.eval y) := h2.mono Xu
   obtain ⟨us, hus, hrel, hus2, hul⟩ := Jf (P := P) h1d hkx hk0 xs.length (Nat.le_refl _)
   obtain ⟨vs, hvs, hrelv, hvs2, hvl⟩ := Jf (P := P) h2d hky hk0 ys.length (Nat.le_refl _)
   rw [hl, ← hsz] at hus hvs
   have hrun := JF (tp := tp) hu hu' hi hzz hlen (show c1 < xs.length + ys.length by omega) (by rw [hby]; exact hb) hm hus hvs
   rw [hrun]
   rw [List.take_length] at hrel hrelv
   have hcap : xs.length + ys.length ≤ grownCap w (xs.length + ys.length) c1 e := Nat.le_add_right _ _
   refine ⟨_, _, ZH S w.drew, rfl, QN.trans (X5 hw []) (W5 (E2 hw) _) (by simp), ?_⟩
   have hwd : w.drew.heap.size = w.heap.size := rfl
   have hkk : ∀ v ∈ us ++ vs, v.cells.size = (T.ofVal z).cells.length := fun v hv => by
    rcases List.mem_append.1 hv with h | h
    ·exact hus2 v h
    ·exact hvs2 v h
   have := Gc (f := false) (S := ZH S w.drew) (cap := grownCap w (xs.length + ys.length) c1 e) (k := (T.ofVal z).cells.length) (b := w.drew.heap.size)
    (.inr rfl) (YZ w.drew (.cells ((us.flatMap fun v => v.cells.toList).toArray ++ (vs.flatMap fun v => v.cells.toList).toArray ++ Builtin.zeroCells z.cells (grownCap w (xs.length + ys.length) c1 e - (xs.length + ys.length))) e))
    ((hrel.append hrelv).mono (Zs (E2 hw) _ (fun _ h => .inl h))) hkk (by
     have h5 : (us ++ vs).length * (T.ofVal z).cells.length = ((us ++ vs).flatMap fun v => v.cells.toList).length := (UM _ hkk).symm
     rw [h5, show ((us.flatMap fun v => v.cells.toList).toArray ++ (vs.flatMap fun v => v.cells.toList).toArray ++ Builtin.zeroCells z.cells (grownCap w (xs.length + ys.length) c1 e - (xs.length + ys.length))).toList =
      ((us ++ vs).flatMap fun v => v.cells.toList) ++ (Builtin.zeroCells z.cells (grownCap w (xs.length + ys.length) c1 e - (xs.length + ys.length))).toList by simp [List.flatMap_append]]
     exact List.take_left) (by simp) (by rw [List.length_append, hul, hvl]; exact hcap)
   rw [List.length_append, hul, hvl] at this
   exact this
theorem Zj (z : Array Value) (n : Nat) : (Builtin.zeroCells z n).size = n * z.size := by simp [Builtin.zeroCells]
theorem Ww {x y : Operand} {xs ys : List T} {f : Bool} {dx dy : T} {d : T} {by_ : Nat} (hx : t.ev x = dx) (hxl : Le dx (.sl true xs)) (hy : t.ev y = dy) (hyl : Le dy (.sl f ys)) [hz : QL K.P ty d by_] (hs : QR K.P ty' = true)
  (hkx : ∀ x ∈ xs, x.cells.length = d.cells.length) (hky : ∀ x ∈ ys, x.cells.length = d.cells.length) (h0 : 0 < ys.length) (hb : (xs.length + ys.length) * by_ ≤ 140737488355328) (hm : xs.length + ys.length ≤ 9223372036854775807)
  {kd : Tmp} (hd : Nat.blt kd K.n = true)
  (h : ∀ b c, (∀ c ∈ keys H, ¬ c = b) → xs.length + ys.length ≤ c →
   N ((kd, .v (.slice (some ⟨b, 0, none⟩) (xs.length + ys.length) c)) :: t) ((b, ⟨Xk K.P ty, xs.flatMap T.cells ++ ys.flatMap T.cells, c * d.cells.length⟩) :: H)) :
  EOp K t H ⟨some kd, .call ⟨.builtin .append, #[x, y], #[ty, ty']⟩, tp, pos, aft, g⟩ N := by
 refine EOp.of_w (fun c e => by cases e) ?_
 intro a w ⟨S, hr⟩ Kc Q hk
 have h1 := hr.env.ev x; rw [hx] at h1
 have h2 := hr.env.ev y; rw [hy] at h2
 replace h1 := hxl _ _ _ h1
 replace h2 := hyl _ _ _ h2
 obtain ⟨e, i, z, hu, hi, hzz, hsz, hp, rfl, hby⟩ := Yx hz.h
 obtain ⟨e', _, hu', _⟩ := YU hs
 have hl := Xl z
 have hk0 : 0 < (T.ofVal z).cells.length := by omega
 obtain ⟨a1, c1, he1, hc1, hf1⟩ := Xw h1
 have hc1' := hf1 rfl
 have e1 : (execOp a.eval ⟨some kd, .call ⟨.builtin .append, #[x, y], #[ty, ty']⟩, tp, pos, aft, g⟩).run K.P w = ((Builtin.append_ #[ty, ty'] tp #[a.eval x, a.eval y]).run K.P w).andThen fun v w' => .ok (.value v) w' := by
  simp [execOp, resolve, invoke, builtin]
 have hee : Xk K.P ty = e := by unfold Xk; rw [hu]
 unfold Oper.wp
 rw [e1, he1]
 rw [he1] at h1
 have hlen := Zd (P := K.P) h2
 have h1d : Rel S w.drew (.sl true xs) (.slice a1 xs.length c1) := h1.mono Xu
 have h2d : Rel S w.drew (.sl f ys) (a.eval y) := h2.mono Xu
 obtain ⟨us, hus, hrel, hul⟩ := Yk (P := K.P) h1d hkx hk0 xs.length (Nat.le_refl _)
 obtain ⟨vs, hvs, hrelv, hvl⟩ := Yk (P := K.P) h2d hky hk0 ys.length (Nat.le_refl _)
 rw [hl, ← hsz] at hus hvs
 have hrun := JF (tp := tp) hu hu' hi hzz hlen (show c1 < xs.length + ys.length by omega) (by rw [hby]; exact hb) hm hus hvs
 rw [hrun]
 rw [List.take_length] at hrel hrelv
 have hcap : xs.length + ys.length ≤ grownCap w (xs.length + ys.length) c1 e := Nat.le_add_right _ _
 have hrd : R1 K t H a w.drew S := ⟨hr.size, hr.defers.step Xu (fun _ _ h _ => h) (Nat.le_refl _), hr.step.trans (X5 hr.wf []) (by simp), hr.own.step (X5 hr.wf []) hr.wf (by simp) (by simp), hr.mine, hr.env.mono Xu⟩
 have hlx := Ym xs hkx
 have hly := Ym ys hky
 have hsum : (xs.length + ys.length) * (T.ofVal z).cells.length = xs.length * (T.ofVal z).cells.length + ys.length * (T.ofVal z).cells.length := Nat.add_mul _ _ _
 have hcm : (xs.length + ys.length) * (T.ofVal z).cells.length ≤ grownCap w (xs.length + ys.length) c1 e * (T.ofVal z).cells.length := Nat.mul_le_mul_right _ hcap
 have hzs : (grownCap w (xs.length + ys.length) c1 e - (xs.length + ys.length)) * (T.ofVal z).cells.length = grownCap w (xs.length + ys.length) c1 e * (T.ofVal z).cells.length - (xs.length + ys.length) * (T.ofVal z).cells.length := Nat.sub_mul _ _ _
 have hfr := hrd.fresh (dst := some kd) (d := .v (.slice (some ⟨w.heap.size, 0, none⟩) (xs.length + ys.length) (grownCap w (xs.length + ys.length) c1 e)))
  (k := ⟨Xk K.P ty, xs.flatMap T.cells ++ ys.flatMap T.cells, grownCap w (xs.length + ys.length) c1 e * (T.ofVal z).cells.length⟩)
  (cs := us.toArray ++ vs.toArray ++ Builtin.zeroCells z.cells (grownCap w (xs.length + ys.length) c1 e - (xs.length + ys.length)))
  (by simp only [Array.size_append, List.size_toArray, Zj, hul, hvl, ← hl]; omega) (by simp only [List.length_append]; omega) (by
   simp only [List.length_append, hlx, hly]
   have : (us.toArray ++ vs.toArray ++ Builtin.zeroCells z.cells (grownCap w (xs.length + ys.length) c1 e - (xs.length + ys.length))).toList = (us ++ vs) ++ (Builtin.zeroCells z.cells (grownCap w (xs.length + ys.length) c1 e - (xs.length + ys.length))).toList := by simp
   rw [this, List.take_left' (by rw [List.length_append, hul, hvl])]
   exact hrel.append hrelv) hd (.v _)
 rw [hee] at hfr
 have hh := h w.heap.size _ (Yw hr) hcap
 rw [hee] at hh
 exact hk _ _ _ _ hh ⟨S, hfr⟩
theorem Ll {x : Nat} : ∀ {l : List Nat} {i : Nat}, l.Nodup → x ∉ l → (l.set i x).Nodup
 | [], i, h, _ => by simp
 | y :: l, 0, h, hx => by
  rw [List.set_cons_zero, List.nodup_cons]
  exact ⟨fun hm => hx (List.mem_cons_of_mem _ hm), (List.nodup_cons.1 h).2⟩
 | y :: l, i + 1, h, hx => by
  rw [List.set_cons_succ, List.nodup_cons]
  have hn := List.nodup_cons.1 h
  refine ⟨fun hm => ?_, Ll hn.2 (fun hm => hx (List.mem_cons_of_mem _ hm))⟩
  rcases List.mem_or_eq_of_mem_set hm with h1 | h1
  ·exact hn.1 h1
  ·exact hx (h1 ▸ List.mem_cons_self)
theorem R1.swap {a : Act} (h : R1 K t H a w S) {i b : Nat} {k0 : Blk} (hi : H[i]? = some (b, k0)) {ty1 : TypeId} {k : Blk} (hT : k.ty = .ty ty1) {cs : Array Value} (hs : cs.size = k.size) (hl : k.cells.length ≤ k.size) (hr : Qr S w k.cells (cs.toList.take k.cells.length))
  {d : T} {v : Value} {kd : Tmp} (hd : Nat.blt kd K.n = true) (hv : Rel S w d v) :
  R1 K ((kd, d) :: t) (H.set i (w.heap.size, k)) (a.put (some kd) v) (w.alloc (.cells cs ty1)) S := by
 have hm := Zs h.wf (.cells cs ty1) (S' := S) (fun _ h => h)
 have hlt : i < H.length := (List.getElem?_eq_some_iff.1 hi).1
 have hkeys : ∀ c ∈ keys (H.set i (w.heap.size, k)), (c ∈ keys H ∧ ¬ c = w.heap.size) ∨ c = w.heap.size := by
  intro c hc
  unfold keys at hc
  rw [List.map_set] at hc
  rcases List.mem_or_eq_of_mem_set hc with h1 | h1
  ·exact .inl ⟨h1, Yw h c h1⟩
  ·exact .inr h1
 refine ⟨by simp [h.size], (h.defers.step hm (V1 w _) (by simp)).put (dst := some kd) hd, h.step.trans (ZZ h.wf _ []) (by simp), ⟨?_, ?_, ?_⟩, ?_, (h.env.mono hm).put (dst := some kd) (by rw [h.size]; exact hd) (hv.mono hm)⟩
 ·unfold keys
  rw [List.map_set]
  exact Ll h.own.nodup (fun hm' => Yw h _ hm' rfl)
 ·intro c hc hS
  rcases hkeys c hc with h1 | h1
  ·exact h.own.apart c h1.1 hS
  ·have := h.wf c hS; omega
 ·intro p hp
  rcases List.mem_or_eq_of_mem_set hp with h1 | h1
  ·have h2 := h.own.has p h1
   exact h2.mono (X0 w _ h2.lt) hm
  ·subst h1
   exact Has.of hT ⟨cs, YZ w _, hs, hl, hr.mono hm⟩
 ·intro c hc
  rcases hkeys c hc with h1 | h1
  ·exact h.mine c h1.1
  ·exact .inr (by have := h.step.size; omega)
theorem Wu {x y : Operand} {b n c : Nat} {k : Blk} {ys : List T} {f : Bool} {dy : T} {d : T} {by_ : Nat} (i : Nat) (hx : t.ev x = .v (.slice (some ⟨b, 0, none⟩) n c)) (hi : H[i]? = some (b, k)) (hy : t.ev y = dy) (hyl : Le dy (.sl f ys))
  [hz : QL K.P ty d by_] (hs : QR K.P ty' = true) (hty : k.ty = .ty (Xk K.P ty)) (hkl : k.cells.length = n * d.cells.length) (hks : k.size = c * d.cells.length)
  (hky : ∀ x ∈ ys, x.cells.length = d.cells.length) (hyleaf : ∀ x ∈ ys, QG x.cells = true) (hb : (n + ys.length) * by_ ≤ 140737488355328) (hm : n + ys.length ≤ 9223372036854775807) {kd : Tmp} (hd : Nat.blt kd K.n = true)
  (h : ∀ b' c', b' = b ∨ (∀ e ∈ keys H, ¬ e = b') → n + ys.length ≤ c' →
   N ((kd, .v (.slice (some ⟨b', 0, none⟩) (n + ys.length) c')) :: t) (H.set i (b', ⟨k.ty, k.cells ++ ys.flatMap T.cells, c' * d.cells.length⟩))) :
  EOp K t H ⟨some kd, .call ⟨.builtin .append, #[x, y], #[ty, ty']⟩, tp, pos, aft, g⟩ N := by
 refine EOp.of_w (fun c e => by cases e) ?_
 intro a w ⟨S, hr⟩ Kc Q hk
 have h1 := hr.env.ev x; rw [hx] at h1
 have h2 := hr.env.ev y; rw [hy] at h2
 replace h2 := hyl _ _ _ h2
 obtain ⟨e, inf, z, hu, hinf, hzz, hsz, hp, rfl, hby⟩ := Yx hz.h
 obtain ⟨e', _, hu', _⟩ := YU hs
 have hl := Xl z
 have hk0 : 0 < (T.ofVal z).cells.length := by omega
 have hee : Xk K.P ty = e := by unfold Xk; rw [hu]
 obtain ⟨cs, hbk, hcs, hcl, hrl⟩ := (hr.own.at hi).row hty
 have e1 : (execOp a.eval ⟨some kd, .call ⟨.builtin .append, #[x, y], #[ty, ty']⟩, tp, pos, aft, g⟩).run K.P w = ((Builtin.append_ #[ty, ty'] tp #[a.eval x, a.eval y]).run K.P w).andThen fun v w' => .ok (.value v) w' := by
  simp [execOp, resolve, invoke, builtin]
 unfold Oper.wp
 rw [e1, h1.v_eq]
 have hlen := Zd (P := K.P) h2
 have hly := Ym ys hky
 have hsum : (n + ys.length) * (T.ofVal z).cells.length = n * (T.ofVal z).cells.length + ys.length * (T.ofVal z).cells.length := Nat.add_mul _ _ _
 have hleaf : QG (ys.flatMap T.cells) = true := by
  unfold QG
  rw [List.all_eq_true]
  intro q hq
  obtain ⟨x', hx', hq⟩ := List.mem_flatMap.1 hq
  exact List.all_eq_true.1 (hyleaf x' hx') q hq
 have hts : cs.toList.length = cs.size := Array.length_toList
 by_cases hfit : n + ys.length ≤ c
 ·have hcm : (n + ys.length) * (T.ofVal z).cells.length ≤ c * (T.ofVal z).cells.length := Nat.mul_le_mul_right _ hfit
  obtain ⟨vs, hvs, hrelv, hvl⟩ := Yk (P := K.P) h2 hky hk0 ys.length (Nat.le_refl _)
  rw [List.take_length] at hrelv
  rw [hl, ← hsz] at hvs
  have hst := Zn (P := K.P) (o := 0 + n * inf.size) hbk vs (by rw [hsz, ← hl]; omega) (UW hrelv hleaf)
  rw [MS (tp := tp) hu hu' hinf hlen hfit hvs hst]
  obtain ⟨s1, s2, s3, s4, s5, s6⟩ := JD (cs' := (lay cs.toList (0 + n * inf.size) vs).toArray) hbk
  have hon : 0 + n * inf.size = k.cells.length := by rw [hkl, hsz, hl]; omega
  have hw := hr.write hty (xs := ys.flatMap T.cells) (us := vs) (o := k.cells.length) hi (Nat.le_refl _) (by omega) s4 s5 s6 s3 s2 s1 (fun cs2 h2 => by rw [hbk] at h2; cases h2; rw [hon]) hrelv
  have hlay : lay k.cells k.cells.length (ys.flatMap T.cells) = k.cells ++ ys.flatMap T.cells := by
   unfold lay
   rw [List.take_length, List.drop_of_length_le (by omega), List.append_nil]
  rw [hlay] at hw
  have hh := h b c (.inl rfl) hfit
  rw [show c * (T.ofVal z).cells.length = k.size from hks.symm] at hh
  refine hk _ _ _ _ hh ⟨S, ?_⟩
  exact ⟨by simp [hw.size], hw.defers.put (dst := some kd) hd, hw.step, hw.own, hw.mine, hw.env.put (dst := some kd) (by rw [hw.size]; exact hd) (.v _)⟩
 ·have h2d : Rel S w.drew (.sl f ys) (a.eval y) := h2.mono Xu
  obtain ⟨vs, hvs, hrelv, hvl⟩ := Yk (P := K.P) h2d hky hk0 ys.length (Nat.le_refl _)
  rw [List.take_length] at hrelv
  rw [hl, ← hsz] at hvs
  have hold : (Builtin.firstCells inf.size n (.slice (some ⟨b, 0, none⟩) n c)).run K.P w.drew = .ok (cs.toList.take (n * inf.size)).toArray w.drew := by
   simp only [Builtin.firstCells]
   exact Z3 (w := w.drew) (b := b) (cs := cs) (ty := Xk K.P ty) (fz := (0, 0)) hbk _ (by rw [List.length_take, hsz, ← hl]; omega) (by simp)
  have hrun := JF (tp := tp) hu hu' hinf hzz hlen (show c < n + ys.length by omega) (by rw [hby]; exact hb) hm hold hvs
  rw [hrun]
  have hcap : n + ys.length ≤ grownCap w (n + ys.length) c e := Nat.le_add_right _ _
  have hrd : R1 K t H a w.drew S := ⟨hr.size, hr.defers.step Xu (fun _ _ h _ => h) (Nat.le_refl _), hr.step.trans (X5 hr.wf []) (by simp), hr.own.step (X5 hr.wf []) hr.wf (by simp) (by simp), hr.mine, hr.env.mono Xu⟩
  have hcm : (n + ys.length) * (T.ofVal z).cells.length ≤ grownCap w (n + ys.length) c e * (T.ofVal z).cells.length := Nat.mul_le_mul_right _ hcap
  have hzs : (grownCap w (n + ys.length) c e - (n + ys.length)) * (T.ofVal z).cells.length = grownCap w (n + ys.length) c e * (T.ofVal z).cells.length - (n + ys.length) * (T.ofVal z).cells.length := Nat.sub_mul _ _ _
  have hnk : n * inf.size = k.cells.length := by rw [hkl, hsz, hl]
  have hfr := hrd.swap (ty1 := e) (d := .v (.slice (some ⟨w.heap.size, 0, none⟩) (n + ys.length) (grownCap w (n + ys.length) c e))) hi
   (k := ⟨k.ty, k.cells ++ ys.flatMap T.cells, grownCap w (n + ys.length) c e * (T.ofVal z).cells.length⟩)
   (cs := (cs.toList.take (n * inf.size)).toArray ++ vs.toArray ++ Builtin.zeroCells z.cells (grownCap w (n + ys.length) c e - (n + ys.length)))
   (by simp only [Array.size_append, List.size_toArray, Zj, List.length_take, hvl, ← hl, hnk]; omega) (by simp only [List.length_append]; omega) (hT := hty.trans (by rw [hee])) (by
    have : ((cs.toList.take (n * inf.size)).toArray ++ vs.toArray ++ Builtin.zeroCells z.cells (grownCap w (n + ys.length) c e - (n + ys.length))).toList = (cs.toList.take (n * inf.size) ++ vs) ++ (Builtin.zeroCells z.cells (grownCap w (n + ys.length) c e - (n + ys.length))).toList := by simp
    simp only
    rw [this, List.take_left' (by simp only [List.length_append, List.length_take, hvl, hly, hnk]; omega), hnk]
    exact (hrl.mono Xu).append hrelv) hd (.v _)
  have hh := h w.heap.size _ (.inr (Yw hr)) hcap
  rw [hee] at hty
  exact hk _ _ _ _ hh ⟨S, hfr⟩
end
theorem OK {k : Nat} : ∀ x ∈ ([] : List T), x.cells.length = k := by simp
theorem Ep {k : Nat} {x : T} {xs : List T} (h : x.cells.length = k) (hs : ∀ x ∈ xs, x.cells.length = k) : ∀ y ∈ x :: xs, y.cells.length = k := by
 intro y hy
 rcases List.mem_cons.1 hy with rfl | hy
 ·exact h
 ·exact hs y hy
theorem OL {k : Nat} {α : Type} (f : α → T) (h : ∀ y, (f y).cells.length = k) (l : List α) : ∀ x ∈ l.map f, x.cells.length = k := by
 intro x hx; obtain ⟨y, _, rfl⟩ := List.mem_map.1 hx; exact h y
theorem Ml {k : Nat} {xs ys : List T} (h : ∀ x ∈ xs, x.cells.length = k) (h' : ∀ x ∈ ys, x.cells.length = k) : ∀ x ∈ xs ++ ys, x.cells.length = k := by
 intro x hx; rcases List.mem_append.1 hx with hx | hx
 ·exact h x hx
 ·exact h' x hx
theorem Em {k n : Nat} {xs : List T} (h : ∀ x ∈ xs, x.cells.length = k) : ∀ x ∈ xs.take n, x.cells.length = k := fun x hx => h x (List.mem_of_mem_take hx)
theorem Eo {k n : Nat} {xs : List T} (h : ∀ x ∈ xs, x.cells.length = k) : ∀ x ∈ xs.drop n, x.cells.length = k := fun x hx => h x (List.mem_of_mem_drop hx)
theorem Es : ∀ x ∈ ([] : List T), QG x.cells = true := by simp
theorem Dg {x : T} {xs : List T} (h : QG x.cells = true) (hs : ∀ x ∈ xs, QG x.cells = true) : ∀ y ∈ x :: xs, QG y.cells = true := by
 intro y hy
 rcases List.mem_cons.1 hy with rfl | hy
 ·exact h
 ·exact hs y hy
theorem Et {α : Type} (f : α → T) (h : ∀ y, QG (f y).cells = true) (l : List α) : ∀ x ∈ l.map f, QG x.cells = true := by
 intro x hx; obtain ⟨y, _, rfl⟩ := List.mem_map.1 hx; exact h y
theorem De {n : Nat} {xs : List T} (h : ∀ x ∈ xs, QG x.cells = true) : ∀ x ∈ xs.take n, QG x.cells = true := fun x hx => h x (List.mem_of_mem_take hx)
theorem Df {n : Nat} {xs : List T} (h : ∀ x ∈ xs, QG x.cells = true) : ∀ x ∈ xs.drop n, QG x.cells = true := fun x hx => h x (List.mem_of_mem_drop hx)
theorem WW {xs ys : List T} (h : ∀ x ∈ xs, QG x.cells = true) (h' : ∀ x ∈ ys, QG x.cells = true) : ∀ x ∈ xs ++ ys, QG x.cells = true := by
 intro x hx; rcases List.mem_append.1 hx with hx | hx
 ·exact h x hx
 ·exact h' x hx
def eb (b : UInt8) : T := .v (.int .u8 b.toNat)
def bs (l : List UInt8) : ByteArray := ⟨l.toArray⟩
@[simp] theorem Yn (l : List UInt8) : (bs l).toList = l := ByteArray.toList_mk l
@[simp] theorem TP (l : List UInt8) : (bs l).size = l.length := by simp [bs, ByteArray.size]
theorem Cq {l m : List UInt8} (h : bs l = bs m) : l = m := by rw [← Yn l, ← Yn m, h]
section
variable {K : Ctx} {P : Program} {t : Env} {H : Qc} {dst : Option Tmp} {tp : TypeId} {pos : String} {aft : Array Edge} {g : Option (Nat × Bool)} {N : Env → Qc → Prop}
variable {S : Nat → Prop} {w : World} {ty ty' : TypeId}
def Zf (P : Program) (t : TypeId) : Bool := match P.underlying t with
 | some (.slice e) => match P.underlying e with
  | some (.int .u8) => true
  | _ => false
 | _ => false
theorem DT (h : Zf P ty = true) : ∃ e, P.underlying ty = some (.slice e) ∧ P.underlying e = some (.int .u8) := by
 unfold Zf at h
 split at h
 ·rename_i e he
  split at h
  ·rename_i h2; exact ⟨e, he, h2⟩
  ·cases h
 ·cases h
theorem RJ (h : Lr P ty = true) : P.underlying ty = some .string := by
 unfold Lr at h
 split at h
 ·assumption
 ·cases h
theorem EH (l : List UInt8) : ∀ (s : ByteArray), ((l.map fun b => (b.toNat : Int)).foldl (fun r n => r.push (UInt8.ofNat n.toNat)) s) = ⟨(s.data.toList ++ l).toArray⟩ := by
 induction l with
 | nil => intro s; simp
 | cons b l ih =>
  intro s
  simp only [List.map_cons, List.foldl_cons]
  rw [ih]
  congr 1
  simp [ByteArray.push]
theorem R5 {f : Bool} {xs : List T} {n c : Nat} (h : Rel S w (.sl f xs) (.slice none n c)) : xs = [] := by cases h; rfl
theorem Ed {x : Operand} {f : Bool} {l : List UInt8} (hx : t.ev x = .sl f (l.map eb)) (h1 : Zf P ty = true) (h2 : Lr P ty' = true) :
  POp P t H ⟨dst, .convert ty ty' x, tp, pos, aft, g⟩ (.v (.string (bs l))) :=
 POp.still fun S w a _ _ hr => by
  have hv := hr x (by simp [Op.operands]); rw [hx] at hv
  obtain ⟨e, he, he2⟩ := DT h1
  have hs := RJ h2
  refine ⟨.string (bs l), ?_, .v _⟩
  have key : (Conv.bytesToString (a.eval x)).run P w = .ok (.string (bs l)) w := by
   generalize hu : a.eval x = u at hv
   obtain ⟨vs, hf, hrel, hk, hlen⟩ := Jf (P := P) (k := 1) hv (by intro x hx; obtain ⟨y, _, rfl⟩ := List.mem_map.1 hx; rfl) (by omega) l.length (by simp)
   have hvs : vs.flatMap (fun v => v.cells.toList) = (l.map fun b => (b.toNat : Int)).map (Value.int .u8) := by
    rw [List.take_of_length_le (by simp)] at hrel
    clear hf hlen hv hx hk
    induction l generalizing vs with
    | nil => cases hrel; rfl
    | cons b l ih =>
     cases hrel with
     | cons _ y _ ys h1 h2 =>
      have := Rel.v_eq h1
      subst this
      rw [List.flatMap_cons, ih _ h2]; rfl
   rw [hvs] at hf
   obtain ⟨p, c, he, hle, _⟩ := Xw hv
   subst he
   cases p with
   | none =>
    have : l = [] := by simpa using R5 hv
    subst this; rfl
   | some p =>
    simp only [List.length_map] at hf ⊢
    simp only [Builtin.firstCells, Nat.mul_one] at hf
    rw [run_bytesToString w p l.length c _ hf, EH]
    congr 2
  have : (convert ty ty' (a.eval x)).run P w = .ok (.string (bs l)) w := by
   unfold convert
   obtain ⟨p, c, hsh, _, _⟩ := Xw hv
   rw [hsh] at key ⊢
   simp only [List.length_map] at key ⊢
   simp [run_underlying he, run_underlying hs, run_underlying he2, key]
  simp [execOp, this]
theorem Ee {x y : Operand} {l m : List UInt8} (hx : t.ev x = .v (.string (bs l))) (hy : t.ev y = .v (.string (bs m))) :
  POp P t H ⟨dst, .binOp .neq ty x y ty', tp, pos, aft, g⟩ (.v (.bool (decide (¬ l = m)))) :=
 POp.le (M1 hx hy) (Le.of_eq (by
  rw [Yn, Yn]; congr 2
  by_cases h : l = m
  ·simp [h]
  ·simp [h]))
theorem Ef {x y : Operand} {l m : List UInt8} (hx : t.ev x = .v (.string (bs l))) (hy : t.ev y = .v (.string (bs m))) :
  POp P t H ⟨dst, .binOp .eql ty x y ty', tp, pos, aft, g⟩ (.v (.bool (decide (l = m)))) :=
 POp.le (M6 hx hy) (Le.of_eq (by
  rw [Yn, Yn]; congr 2
  by_cases h : l = m
  ·simp [h]
  ·simp [h]))
theorem Uv {f : Bool} {xs : List T} {u : Value} {e : TypeId} {inf : TypeInfo} (h : Rel S w (.sl f xs) u) (hk : ∀ x ∈ xs, x.cells.length = inf.size) (h0 : 0 < inf.size) {lo hi : Nat} (h1 : lo ≤ hi) (h2 : hi ≤ xs.length)
  (hu : P.underlying ty = some (.slice e)) (hi' : P.info? e = some inf) {ol oh om : Option Value} (hrun : (Instr.sliceBounds true xs.length (match u with | .slice _ _ c => c | _ => 0) ol oh om).run P w = .ok (lo, hi, match u with | .slice _ _ c => c | _ => 0) w) :
  ∃ v, (Instr.sliceAt ty u ol oh om).run P w = .ok v w ∧ Rel S w (.sl (f && Nat.beq hi xs.length) ((xs.drop lo).take (hi - lo))) v := by
 cases h with
 | nil =>
  have : lo = 0 := by simp at h2; omega
  subst this
  have : hi = 0 := by simp at h2; omega
  subst this
  simp only [List.length_nil] at hrun
  rename_i p c hf
  cases p with
  | none =>
   refine ⟨.slice none 0 c, ?_, by simp; exact .nil _ _ _ hf⟩
   simp [Instr.sliceAt, Instr.slice, run_underlying hu, hrun, Qy hi']
  | some a =>
   refine ⟨.slice (if c = 0 then some a else some (a.add 0)) 0 c, ?_, by simp; exact .nil _ _ _ hf⟩
   simp [Instr.sliceAt, Instr.slice, run_underlying hu, hrun, Qy hi']
 | sl _ _ b o cap vs k cs ty2 fz hS hb hr hg hf hc =>
  have hvl := hr.length
  rw [hvl] at hc hf ⊢
  simp only at hrun
  have hsize : ∀ v ∈ vs, v.cells.size = inf.size := (Ji h0 hr hk).2
  have hsub := (hr.drop lo).take (hi - lo)
  have hlen : ((vs.drop lo).take (hi - lo)).length = hi - lo := by rw [List.length_take, List.length_drop]; omega
  have hkk : vs.length = 0 ∨ k = inf.size := by
   cases vs with
   | nil => exact .inl rfl
   | cons v vs => exact .inr (by rw [← hg.1 v List.mem_cons_self, hsize v List.mem_cons_self])
  refine ⟨.slice (some (if cap = lo then ⟨b, o, none⟩ else ⟨b, o + lo * inf.size, none⟩)) (hi - lo) (cap - lo), ?_, ?_⟩
  ·simp only [Instr.sliceAt, Sem.run_bind, run_underlying hu, Result.andThen_ok]
   simp only [Instr.slice, Sem.run_bind, run_underlying hu, Result.andThen_ok, hrun, Qy hi', Sem.run_pure]
   by_cases hcl : cap = lo
   ·simp [hcl]
   ·simp [hcl, Addr.add_mk]
  ·by_cases hcl : cap = lo
   ·have : hi - lo = 0 := by omega
    rw [if_pos hcl, this]
    have hz : ((vs.drop lo).take 0) = [] := by simp
    rw [this] at hsub
    rw [hz] at hsub
    refine .sl _ _ b o (cap - lo) [] k cs ty2 fz hS hb hsub ⟨by simp, by simp⟩ (fun e => by simp; omega) (by simp)
   ·rw [if_neg hcl]
    have hrel := Rel.sl (S := S) (w := w) (f && Nat.beq hi xs.length) ((xs.drop lo).take (hi - lo)) b (o + lo * inf.size) (cap - lo) ((vs.drop lo).take (hi - lo)) inf.size cs ty2 fz hS hb hsub
     ⟨fun v hv => hsize v (List.mem_of_mem_drop (List.mem_of_mem_take hv)), ?_⟩ (fun e => ?_) (by omega)
    ·rw [hlen] at hrel; exact hrel
    ·rcases hkk with hv0 | rfl
     ·have hxl : xs.length = 0 := by omega
      have : hi - lo = 0 := by omega
      simp [this]
     ·rw [hlen, ← List.drop_drop]
      have hfl : ∀ (l : List Value) (n : Nat), (∀ v ∈ l, v.cells.size = inf.size) → (l.flatMap fun v => v.cells.toList).drop (n * inf.size) = (l.drop n).flatMap fun v => v.cells.toList := by
       intro l n hl
       induction l generalizing n with
       | nil => simp
       | cons x l ih =>
        cases n with
        | zero => simp
        | succ n =>
         have hx := hl x List.mem_cons_self
         have : x.cells.toList.length = inf.size := by rw [Array.length_toList, hx]
         rw [List.flatMap_cons, List.drop_succ_cons, Nat.succ_mul, List.drop_append, this, List.drop_of_length_le (by omega), List.nil_append, show n * inf.size + inf.size - inf.size = n * inf.size by omega]
         exact ih n (fun y hy => hl y (List.mem_cons_of_mem _ hy))
      have hgg := congrArg (List.drop (lo * inf.size)) hg.2
      rw [hfl vs lo hsize, List.drop_take, hvl] at hgg
      rw [← Jn _ _ (fun v hv => hsize v (List.mem_of_mem_drop hv)), ← hgg, List.take_take]
      congr 1
      have e1 : (hi - lo) * inf.size = hi * inf.size - lo * inf.size := Nat.sub_mul _ _ _
      have e2 : hi * inf.size ≤ xs.length * inf.size := Nat.mul_le_mul_right _ h2
      omega
    ·simp only [Bool.and_eq_true] at e
     have h3 := hf e.1
     have h4 := Nat.eq_of_beq_eq_true e.2
     rw [hlen]; omega
theorem Xn {k : IntKind} {i : Int} {y : Nat} {code : BoundsCode} (h0 : 0 ≤ i) (h1 : i ≤ y) (w : World) : (Instr.sliceBound (.int k i) y code).run P w = .ok i.toNat w := by
 simp [Instr.sliceBound, asIntOf, h0, h1]
variable {f : Bool} {xs : List T} {dx : T} {d : T} {by_ : Nat} {x l h : Operand} {k k' : IntKind} {i j : Int}
theorem YI [hz : QL P ty d by_] : ∃ e inf, P.underlying ty = some (.slice e) ∧ P.info? e = some inf ∧ inf.size = d.cells.length ∧ 0 < inf.size := by
 obtain ⟨e, inf, z, hu, hinf, hzz, hsz, hp, rfl, hby⟩ := Yx hz.h
 exact ⟨e, inf, hu, hinf, by rw [Xl, hsz], by omega⟩
theorem L1 (hx : t.ev x = dx) (hxl : Le dx (.sl f xs)) (hl : t.ev l = .v (.int k i)) (hh : t.ev h = .v (.int k' j)) [hz : QL P ty d by_] (h0 : 0 ≤ i) (h1 : i ≤ j) (h2 : j ≤ xs.length) (hk : ∀ x ∈ xs, x.cells.length = d.cells.length) :
  POp P t H ⟨dst, .slice ty x (some l) (some h) none, tp, pos, aft, g⟩ (.sl (f && Nat.beq j.toNat xs.length) ((xs.drop i.toNat).take (j.toNat - i.toNat))) :=
 POp.still fun S w a _ _ hr => by
  have e1 := hr x (by simp [Op.operands]); rw [hx] at e1
  have e2 := hr l (by simp [Op.operands]); rw [hl] at e2
  have e3 := hr h (by simp [Op.operands]); rw [hh] at e3
  replace e1 := hxl _ _ _ e1
  obtain ⟨e, inf, hu, hinf, hs, hp⟩ := YI (P := P) (ty := ty) (d := d) (by_ := by_)
  obtain ⟨p, c, hsh, hle, _⟩ := Xw e1
  rw [hsh] at e1
  obtain ⟨v, hv, hrel⟩ := Uv (P := P) (ty := ty) (inf := inf) (lo := i.toNat) (hi := j.toNat) (ol := some (a.eval l)) (oh := some (a.eval h)) (om := none) e1 (by rw [hs]; exact hk) hp (by omega) (by omega) hu hinf (by
   rw [e2.v_eq, e3.v_eq]
   simp [Instr.sliceBounds, Xn (P := P) (show 0 ≤ j by omega) (show j ≤ (c : Nat) by omega), Xn (P := P) h0 (show i ≤ (j.toNat : Nat) by omega)])
  exact ⟨v, by simp [execOp, hsh, hv], hrel⟩
theorem Vd (hx : t.ev x = dx) (hxl : Le dx (.sl f xs)) (hl : t.ev l = .v (.int k i)) [hz : QL P ty d by_] (h0 : 0 ≤ i) (h2 : i ≤ xs.length) (hk : ∀ x ∈ xs, x.cells.length = d.cells.length) :
  POp P t H ⟨dst, .slice ty x (some l) none none, tp, pos, aft, g⟩ (.sl f (xs.drop i.toNat)) :=
 POp.still fun S w a _ _ hr => by
  have e1 := hr x (by simp [Op.operands]); rw [hx] at e1
  have e2 := hr l (by simp [Op.operands]); rw [hl] at e2
  replace e1 := hxl _ _ _ e1
  obtain ⟨e, inf, hu, hinf, hs, hp⟩ := YI (P := P) (ty := ty) (d := d) (by_ := by_)
  obtain ⟨p, c, hsh, hle, _⟩ := Xw e1
  rw [hsh] at e1
  obtain ⟨v, hv, hrel⟩ := Uv (P := P) (ty := ty) (inf := inf) (lo := i.toNat) (hi := xs.length) (ol := some (a.eval l)) (oh := none) (om := none) e1 (by rw [hs]; exact hk) hp (by omega) (by omega) hu hinf (by
   rw [e2.v_eq]
   simp [Instr.sliceBounds, Xn (P := P) h0 (show i ≤ (xs.length : Nat) by omega)])
  refine ⟨v, by simp [execOp, hsh, hv], ?_⟩
  have hb : Nat.beq xs.length xs.length = true := Nat.beq_refl _
  rw [hb, Bool.and_true, List.take_of_length_le (by rw [List.length_drop]; omega)] at hrel
  exact hrel
theorem Ve (hx : t.ev x = dx) (hxl : Le dx (.sl f xs)) (hh : t.ev h = .v (.int k' j)) [hz : QL P ty d by_] (h1 : 0 ≤ j) (h2 : j ≤ xs.length) (hk : ∀ x ∈ xs, x.cells.length = d.cells.length) :
  POp P t H ⟨dst, .slice ty x none (some h) none, tp, pos, aft, g⟩ (.sl (f && Nat.beq j.toNat xs.length) (xs.take j.toNat)) :=
 POp.still fun S w a _ _ hr => by
  have e1 := hr x (by simp [Op.operands]); rw [hx] at e1
  have e3 := hr h (by simp [Op.operands]); rw [hh] at e3
  replace e1 := hxl _ _ _ e1
  obtain ⟨e, inf, hu, hinf, hs, hp⟩ := YI (P := P) (ty := ty) (d := d) (by_ := by_)
  obtain ⟨p, c, hsh, hle, _⟩ := Xw e1
  rw [hsh] at e1
  obtain ⟨v, hv, hrel⟩ := Uv (P := P) (ty := ty) (inf := inf) (lo := 0) (hi := j.toNat) (ol := none) (oh := some (a.eval h)) (om := none) e1 (by rw [hs]; exact hk) hp (by omega) (by omega) hu hinf (by
   rw [e3.v_eq]
   simp [Instr.sliceBounds, Xn (P := P) h1 (show j ≤ (c : Nat) by omega)])
  exact ⟨v, by simp [execOp, hsh, hv], by simpa using hrel⟩
end
inductive Qh : Qc → Qc → Prop
 | nil (H : Qc) : Qh H []
 | keep (b : Nat) (k k' : Blk) (r r' : Qc) (h : Yp k k') (hs : Qh r r') : Qh ((b, k) :: r) ((b, k') :: r')
 | skip (p : Nat × Blk) (r r' : Qc) (hs : Qh r r') : Qh (p :: r) r'
theorem Qh.le {H H' : Qc} (h : Qh H H') (hn : (keys H).Nodup) : Xr H H' := by
 induction h with
 | nil H => exact Xr.nil _
 | keep b k k' r r' hk hr ih =>
  have hn' := List.nodup_cons.1 (show (b :: keys r).Nodup from hn)
  have ih := ih hn'.2
  refine ⟨?_, ?_⟩
  ·show (b :: keys r').Nodup
   exact List.nodup_cons.2 ⟨fun hm => hn'.1 (ih.sub b hm), ih.1⟩
  ·intro p hp
   rcases List.mem_cons.1 hp with rfl | hp
   ·exact ⟨k, List.mem_cons_self, hk⟩
   ·obtain ⟨k2, h1, h2⟩ := ih.2 p hp
    exact ⟨k2, List.mem_cons_of_mem _ h1, h2⟩
 | skip p r r' hr ih =>
  have hn' := List.nodup_cons.1 (show (p.1 :: keys r).Nodup from hn)
  have ih := ih hn'.2
  refine ⟨ih.1, fun q hq => ?_⟩
  obtain ⟨k2, h1, h2⟩ := ih.2 q hq
  exact ⟨k2, List.mem_cons_of_mem _ h1, h2⟩
def Jw (H : Qc) (p p' : Nat × Blk) (H' : Qc) : Prop := ∃ i, H[i]? = some p ∧ H' = H.set i p'
theorem OR {p p' : Nat × Blk} {r : Qc} : Jw (p :: r) p p' (p' :: r) := ⟨0, rfl, rfl⟩
theorem Wg {p p' q : Nat × Blk} {r r' : Qc} (h : Jw r p p' r') : Jw (q :: r) p p' (q :: r') := by
 obtain ⟨i, h1, h2⟩ := h
 exact ⟨i + 1, by simpa using h1, by rw [h2]; rfl⟩
theorem OS {p : Nat × Blk} {r : Qc} : p ∈ p :: r := List.mem_cons_self
theorem Ex {p q : Nat × Blk} {r : Qc} (h : p ∈ r) : p ∈ q :: r := List.mem_cons_of_mem _ h
theorem eZ {t : Env} {k : Tmp} {d : T} : Env.ev ((k, d) :: t) (.tmp k) = d := GN
theorem eS {t : Env} {j k : Tmp} {d e : T} (h : Nat.beq j k = false) (h' : Env.ev t (.tmp k) = d) : Env.ev ((j, e) :: t) (.tmp k) = d := I2 h h'
theorem gZ {t : Env} {k : Tmp} {d : T} : Env.get ((k, d) :: t) k = d := IQ
theorem gS {t : Env} {j k : Tmp} {d e : T} (h : Nat.beq j k = false) (h' : Env.get t k = d) : Env.get ((j, e) :: t) k = d := OW h h'
theorem hZ {p : Nat × Blk} {r : Qc} : p ∈ p :: r := OS
theorem hS {p q : Nat × Blk} {r : Qc} (h : p ∈ r) : p ∈ q :: r := Ex h
theorem rZ {p p' : Nat × Blk} {r : Qc} : Jw (p :: r) p p' (p' :: r) := OR
theorem rS {p p' q : Nat × Blk} {r r' : Qc} (h : Jw r p p' r') : Jw (q :: r) p p' (q :: r') := Wg h
theorem hA {A r : Qc} {p : Nat × Blk} (h : p ∈ r) : p ∈ A ++ r := List.mem_append_right _ h
theorem Ls {p p' : Nat × Blk} {r r' : Qc} (h : Jw r p p' r') : ∀ A : Qc, Jw (A ++ r) p p' (A ++ r')
 | [] => h
 | _ :: A => Wg (Ls h A)
theorem rA {A r r' : Qc} {p p' : Nat × Blk} (h : Jw r p p' r') : Jw (A ++ r) p p' (A ++ r') := Ls h A
inductive ZB : List T → Nat → List T → List T → Prop
 | nil (cs : List T) : ZB cs 0 [] cs
 | cons (c : T) (cs : List T) (d : T) (ds r : List T) (h : ZB cs 0 ds r) : ZB (c :: cs) 0 (d :: ds) (d :: r)
 | skip (c : T) (cs : List T) (o : Nat) (ds r : List T) (h : ZB cs o ds r) : ZB (c :: cs) (o + 1) ds (c :: r)
theorem ZB.eq {cs : List T} {o : Nat} {ds r : List T} (h : ZB cs o ds r) : lay cs o ds = r ∧ o + ds.length ≤ cs.length := by
 induction h with
 | nil cs => exact ⟨by simp [lay], by simp⟩
 | cons c cs d ds r h ih =>
  refine ⟨?_, by have := ih.2; simp at this ⊢; omega⟩
  rw [← ih.1]; simp [lay]
 | skip c cs o ds r h ih =>
  refine ⟨?_, by have := ih.2; simp at this ⊢; omega⟩
  rw [← ih.1]; simp [lay, show o + 1 + ds.length = (o + ds.length) + 1 by omega]
inductive Xs : List T → Nat → Nat → List T → Prop
 | nil (cs : List T) : Xs cs 0 0 []
 | cons (c : T) (cs : List T) (n : Nat) (r : List T) (h : Xs cs 0 n r) : Xs (c :: cs) 0 (n + 1) (c :: r)
 | skip (c : T) (cs : List T) (o n : Nat) (r : List T) (h : Xs cs o n r) : Xs (c :: cs) (o + 1) n r
theorem Xs.eq {cs : List T} {o n : Nat} {r : List T} (h : Xs cs o n r) : (cs.drop o).take n = r ∧ o + n ≤ cs.length := by
 induction h with
 | nil cs => exact ⟨by simp, by simp⟩
 | cons c cs n r h ih => exact ⟨by have := ih.1; simp at this ⊢; exact this, by have := ih.2; simp at this ⊢; omega⟩
 | skip c cs o n r h ih => exact ⟨by have := ih.1; simpa using this, by have := ih.2; simp at this ⊢; omega⟩
section
variable {K : Ctx} {t : Env} {H : Qc} {Ψ : Exit → Env → Qc → Prop} {N : Env → Qc → Prop} {P : Program} {ops : Array Oper}
theorem D8 {c : Code} (t' : Env) (H' : Qc) (ht : ZD t t') (hH : Qh H H') (h : Sim K c t' H' Ψ) : Sim K c t H Ψ := D7 ht hH.le h
def TG (t' : Env) (H' : Qc) (Ψ : Exit → Env → Qc → Prop) : Exit → Env → Qc → Prop
 | .normal, t, H => ZD t t' ∧ Qh H H'
 | e, t, H => Ψ e t H
theorem JP {c r : Code} (t' : Env) (H' : Qc) (h : Sim K c t H (TG t' H' Ψ)) (h' : Sim K r t' H' Ψ) : Sim K c t H (W4 K r Ψ) :=
 VO h (fun e t1 H1 hc => by
  cases e with
  | normal => exact D8 t' H' hc.1 hc.2 h'
  | _ => exact hc)
theorem DJ {t' : Env} {H' : Qc} : TG t' H' Ψ .ret t H = Ψ .ret t H := rfl
def Ac {σ : Type} (ok : σ → Prop) (env : σ → Env) (heap : σ → Qc) (μ : σ → Nat) (s : σ) (Ψ : Exit → Env → Qc → Prop) : Exit → Env → Qc → Prop
 | .normal, t, H => ∃ s', ok s' ∧ μ s' < μ s ∧ ZD t (env s') ∧ Qh H (heap s')
 | e, t, H => Ψ e t H
theorem Qo {σ : Type} {c : Code} (ok : σ → Prop) (env : σ → Env) (heap : σ → Qc) (μ : σ → Nat) (s0 : σ) (h0 : ok s0) (he : ZD t (env s0)) (hh : Qh H (heap s0))
  (round : ∀ s, ok s → Sim K c (env s) (heap s) (Ac ok env heap μ s Ψ)) : Sim K (.loop c) t H Ψ := by
 refine RT (σ := σ) (fun s t H => ok s ∧ ZD t (env s) ∧ Qh H (heap s)) μ s0 ⟨h0, he, hh⟩ ?_
 rintro s t H ⟨h1, h2, h3⟩
 refine D8 _ _ h2 h3 (VO (round s h1) ?_)
 intro e t' H' h
 cases e with
 | normal => obtain ⟨s', a, b, c, d⟩ := h; exact ⟨s', b, a, c, d⟩
 | _ => exact h
def TM (P : Program) (ops : Array Oper) (H : Qc) : Env → List Oper → List T → Prop
 | t, o :: os, d :: ds => GOp P ops t H o d ∧ TM P ops H (t.put o.dst d) os ds
 | _, [], [] => True
 | _, _, _ => False
def TO (K : Ctx) (ops : Array Oper) (i n : Nat) (l : List Oper) (t : Env) (H : Qc) (N : Env → Qc → Prop) : Prop :=
 ∃ ds, ds.length = n ∧ TM K.P ops H t (l.take n) ds ∧ Qf K ops (i + n) (l.drop n) (R7 t (l.take n) ds) H N
theorem POp.congr {t t' : Env} {o : Oper} {d : T} (h : POp P t H o d) (he : ∀ x ∈ o.op.operands, t.ev x = t'.ev x) : POp P t' H o d :=
 fun S w a hw ho hx Kc Q hk => h S w a hw ho (fun x hxo => by rw [he x hxo]; exact hx x hxo) Kc Q hk
theorem GOp.congr {t t' : Env} {o : Oper} {d : T} (h : GOp P ops t H o d) (he : ∀ k ∈ o.looksAt ops, t.get k = t'.get k) : GOp P ops t' H o d := by
 have hev : ∀ x ∈ o.op.operands, t.ev x = t'.ev x := by
  intro x hx
  cases x with
  | tmp k => exact he k (List.mem_append_left _ (List.mem_filterMap.2 ⟨.tmp k, by simpa using hx, rfl⟩))
  | _ => rfl
 unfold GOp at *
 cases hg : o.guard with
 | none => rw [hg] at h; exact POp.congr h hev
 | some jw =>
  obtain ⟨j, want⟩ := jw
  rw [hg] at h
  obtain ⟨k, b, h1, h2, h3, h4⟩ := h
  exact ⟨k, b, h1, by rw [← he k (by unfold Oper.looksAt; rw [hg]; simp [h1])]; exact h2, fun e => POp.congr (h3 e) hev, h4⟩
@[simp] theorem Bo {α : Type} (l : List α) (o : Nat) (xs : List α) : (lay l o xs).length = min o l.length + xs.length + (l.length - (o + xs.length)) := by simp [lay]; omega
theorem LeL.map {α : Type} (f g : α → T) (h : ∀ x, Le (f x) (g x)) (l : List α) : LeL (l.map f) (l.map g) := by
 induction l with
 | nil => exact LeL.nil
 | cons x l ih => exact LeL.cons (h x) ih
theorem Lo {α : Type} (l xs : List α) (h : l.length = xs.length) : lay l 0 xs = xs := by simp [lay, h]
theorem O3 {α : Type} (f : α → T) (h : ∀ y, (f y).cells = [f y]) (l : List α) : (l.map f).flatMap T.cells = l.map f := by
 induction l with
 | nil => rfl
 | cons x l ih => rw [List.map_cons, List.flatMap_cons, h, ih]; rfl
theorem Qi {t : Env} {k : Nat} {e d : T} (h : t.get k = e) (h' : Le e d) : Le (t.get k) d := h ▸ h'
theorem Cr {ty ty' : TypeId} {cs cs' : List T} {n n' : Nat} (h1 : ty = ty') (h2 : LeL cs cs') (hl : cs'.length = cs.length) (h3 : n = n') : Yp ⟨ty, cs, n⟩ ⟨ty', cs', n'⟩ := by
 subst h1; subst h3; exact Yp.cells hl h2
theorem Mk {α : Type} {f : α → T} {l : List α} {i : Nat} (h : i < l.length) : (l.map f)[(i : Int).toNat]? = some (f (l[i]'h)) := by simp [h]
theorem YL {id : Nat} : MD id Ψ .ret t H = Ψ .ret t H := rfl
theorem Zc {K : Ctx} {c : Code} : W4 K c Ψ .ret t H = Ψ .ret t H := rfl
theorem JS {σ : Type} {ok : σ → Prop} {env : σ → Env} {heap : σ → Qc} {μ : σ → Nat} {s : σ} : Ac ok env heap μ s Ψ .ret t H = Ψ .ret t H := rfl
theorem R3 : YO P t H [] [] := trivial
theorem R2 {k : Tmp} {rs : List ResultVar} {d : T} {ds : List T} (h : t.get k = d) (hs : YO P t H rs ds) : YO P t H (.tmp k :: rs) (d :: ds) := ⟨h, hs⟩
theorem BD {fn : Func} {rs : List ResultVar} {ds : List T} {d : T} (hr : fn.results.toList = rs) (h : YO P t H rs ds) (hl : Le (XW ds) d) :
  Vq P fn (fun r H => H = [] ∧ r = d) .ret t H := ⟨ds, d, [], by rw [hr]; exact h, hl, ⟨rfl, rfl⟩, fun _ => Xr.nil _⟩
theorem EI {fn : Func} {rs : List ResultVar} {ds : List T} {d : T} (hr : fn.results.toList = rs) (h : YO P t H rs ds) (hl : Le (XW ds) d) :
  Vq P fn (fun r H => H = [] ∧ r = d) .normal t H := ⟨ds, d, [], by rw [hr]; exact h, hl, ⟨rfl, rfl⟩, fun _ => Xr.nil _⟩
theorem IZ {fn : Func} {Φ : T → Prop} {rs : List ResultVar} {ds : List T} (hr : fn.results.toList = rs) (h : YO P t H rs ds) (d : T) (hl : Le (XW ds) d) (hp : Φ d) :
  Vq P fn (fun r H => H = [] ∧ Φ r) .ret t H := ⟨ds, d, [], by rw [hr]; exact h, hl, ⟨rfl, hp⟩, fun _ => Xr.nil _⟩
theorem VH (a n : Int) (hn : 0 < n) : (a.tmod n < 0 → a.tmod n + n = a % n) ∧ (¬ a.tmod n < 0 → a.tmod n = a % n) := by
 have h1 := Int.emod_nonneg a (show n ≠ 0 by omega)
 have h2 := Int.emod_lt_of_pos a hn
 rw [Int.tmod_eq_emod]
 split <;> constructor <;> intro h <;> omega
def T.gp (p : Prop) (i : Decidable p) (d : T) : T := bif @decide p i then d else .v undef
theorem XD {p : Prop} {i : Decidable p} {d : T} (h : p) : T.gp p i d = d := by simp [T.gp, h]
theorem Yi {p : Prop} {i : Decidable p} {d : T} (h : ¬ p) : T.gp p i d = .v undef := by simp [T.gp, h]
theorem IM {p : Prop} {i : Decidable p} {v : Value} : T.gp p i (.v v) = .v (bif @decide p i then v else undef) := by by_cases h : p <;> simp [T.gp, h]
section
variable {i n : Nat} {l : List Oper} {op : Op} {tp : TypeId} {pos : String} {aft : Array Edge} {k : Tmp} {d : T} {j kg : Nat} {p q : Prop} {_ : Decidable p} {_ : Decidable q}
theorem Xt : (Value.bool (decide p) = .bool true) ↔ p := by simp
theorem Yy : (Value.bool (decide p) = .bool false) ↔ ¬ p := by simp
theorem JV : ((bif decide p then Value.bool (decide q) else undef) = .bool true) ↔ p ∧ q := by by_cases h : p <;> simp [h, undef]
theorem Y8 : ((bif decide p then Value.bool (decide q) else undef) = .bool false) ↔ p ∧ ¬ q := by by_cases h : p <;> simp [h, undef]
theorem Bz (hj : (ops[j]?).bind (·.dst) = some kg) (hb : t.get kg = .v (.bool (decide p))) (hp : p → POp K.P t H ⟨some k, op, tp, pos, aft, some (j, true)⟩ d) (hd : Nat.blt k K.n = true)
  (h : Qf K ops (i + 1) l ((k, T.gp p inferInstance d) :: t) H N) : Qf K ops i (⟨some k, op, tp, pos, aft, some (j, true)⟩ :: l) t H N :=
 Jm (e := T.gp p inferInstance d) rfl hj hb (fun e => hp (Xt.1 e)) (fun e => XD (Xt.1 e)) (fun e => Yi (fun h => e (Xt.2 h))) hd h
theorem BA (hj : (ops[j]?).bind (·.dst) = some kg) (hb : t.get kg = .v (.bool (decide p))) (hp : ¬ p → POp K.P t H ⟨some k, op, tp, pos, aft, some (j, false)⟩ d) (hd : Nat.blt k K.n = true)
  (h : Qf K ops (i + 1) l ((k, T.gp (¬ p) inferInstance d) :: t) H N) : Qf K ops i (⟨some k, op, tp, pos, aft, some (j, false)⟩ :: l) t H N :=
 Jm (e := T.gp (¬ p) inferInstance d) rfl hj hb (fun e => hp (Yy.1 e)) (fun e => XD (Yy.1 e)) (fun e => Yi (fun h => e (Yy.2 h))) hd h
theorem Bx (hj : (ops[j]?).bind (·.dst) = some kg) (hb : t.get kg = T.gp p ‹_› (.v (.bool (decide q)))) (hp : p ∧ q → POp K.P t H ⟨some k, op, tp, pos, aft, some (j, true)⟩ d) (hd : Nat.blt k K.n = true)
  (h : Qf K ops (i + 1) l ((k, T.gp (p ∧ q) inferInstance d) :: t) H N) : Qf K ops i (⟨some k, op, tp, pos, aft, some (j, true)⟩ :: l) t H N :=
 Jm (e := T.gp (p ∧ q) inferInstance d) rfl hj (hb.trans IM) (fun e => hp (JV.1 e)) (fun e => XD (JV.1 e)) (fun e => Yi (fun h => e (JV.2 h))) hd h
theorem By (hj : (ops[j]?).bind (·.dst) = some kg) (hb : t.get kg = T.gp p ‹_› (.v (.bool (decide q)))) (hp : p ∧ ¬ q → POp K.P t H ⟨some k, op, tp, pos, aft, some (j, false)⟩ d) (hd : Nat.blt k K.n = true)
  (h : Qf K ops (i + 1) l ((k, T.gp (p ∧ ¬ q) inferInstance d) :: t) H N) : Qf K ops i (⟨some k, op, tp, pos, aft, some (j, false)⟩ :: l) t H N :=
 Jm (e := T.gp (p ∧ ¬ q) inferInstance d) rfl hj (hb.trans IM) (fun e => hp (Y8.1 e)) (fun e => XD (Y8.1 e)) (fun e => Yi (fun h => e (Y8.2 h))) hd h
theorem TA {x : Operand} {ip : Decidable p} (h : t.ev x = T.gp p ip d) (hp : p) : t.ev x = d := by rw [h, XD hp]
section
variable {dst : Option Tmp} {g : Option (Nat × Bool)} {c x y : Operand} {r : Prop} {_ : Decidable r}
theorem M0 {ir : Decidable (¬ p)} (hc : t.ev c = .v (.bool (decide p))) (hx : t.ev x = .v (.bool true)) (hy : t.ev y = T.gp (¬ p) ir (.v (.bool (decide q)))) :
  POp P t H ⟨dst, .pick c x y, tp, pos, aft, g⟩ (.v (.bool (decide (p ∨ q)))) :=
 POp.le (Ux hc hx hy) (Le.of_eq (by by_cases h : p <;> by_cases h' : q <;> simp [T.gp, h, h']))
theorem L3 {ir : Decidable p} (hc : t.ev c = .v (.bool (decide p))) (hx : t.ev x = T.gp p ir (.v (.bool (decide q)))) (hy : t.ev y = .v (.bool false)) :
  POp P t H ⟨dst, .pick c x y, tp, pos, aft, g⟩ (.v (.bool (decide (p ∧ q)))) :=
 POp.le (Ux hc hx hy) (Le.of_eq (by by_cases h : p <;> by_cases h' : q <;> simp [T.gp, h, h']))
theorem L2 {ir : Decidable (r ∧ ¬ p)} {i2 : Decidable r} (hc : t.ev c = T.gp r i2 (.v (.bool (decide p)))) (hx : t.ev x = .v (.bool true)) (hy : t.ev y = T.gp (r ∧ ¬ p) ir (.v (.bool (decide q)))) (hr : r) :
  POp P t H ⟨dst, .pick c x y, tp, pos, aft, g⟩ (.v (.bool (decide (p ∨ q)))) :=
 POp.le (Ux (hc.trans (XD hr)) hx hy) (Le.of_eq (by by_cases h : p <;> by_cases h' : q <;> simp [T.gp, h, h', hr]))
theorem WR {ir : Decidable (r ∧ p)} {i2 : Decidable r} (hc : t.ev c = T.gp r i2 (.v (.bool (decide p)))) (hx : t.ev x = T.gp (r ∧ p) ir (.v (.bool (decide q)))) (hy : t.ev y = .v (.bool false)) (hr : r) :
  POp P t H ⟨dst, .pick c x y, tp, pos, aft, g⟩ (.v (.bool (decide (p ∧ q)))) :=
 POp.le (Ux (hc.trans (XD hr)) hx hy) (Le.of_eq (by by_cases h : p <;> by_cases h' : q <;> simp [T.gp, h, h', hr]))
theorem Ic {ty : TypeId} (hx : t.ev x = .v (.bool (decide p))) : POp P t H ⟨dst, .unOp .not ty x, tp, pos, aft, g⟩ (.v (.bool (decide (¬ p)))) :=
 POp.le (Gg hx) (Le.of_eq (by by_cases h : p <;> simp [h]))
end
end
section
variable {dst : Option Tmp} {tp : TypeId} {pos : String} {aft : Array Edge} {g : Option (Nat × Bool)} {ty ty' : TypeId}
theorem WS {x : Operand} {b o n m : Nat} {ty0 : TypeId} {cells cs : List T} (hx : t.ev x = .v (.pointer (some ⟨b, o, none⟩))) (hi : (b, (⟨ty0, cells, m⟩ : Blk)) ∈ H) [hk : U9 P ty n]
  (hc : Xs cells o n cs) : POp P t H ⟨dst, .load ty x, tp, pos, aft, g⟩ (.agg cs) := by
 obtain ⟨i, hi⟩ := List.mem_iff_getElem?.1 hi
 have := UX (P := P) (dst := dst) (tp := tp) (pos := pos) (aft := aft) (g := g) (ty := ty) (n := n) i hx hi (by simpa using hc.eq.2)
 simp only [hc.eq.1] at this
 exact this
theorem Ou {x : Operand} {b o m : Nat} {ty0 : TypeId} {cells : List T} {d : T} (hx : t.ev x = .v (.pointer (some ⟨b, o, none⟩))) (hi : (b, (⟨ty0, cells, m⟩ : Blk)) ∈ H) (hd : cells[o]? = some d) (hk : QC P ty = true) :
  POp P t H ⟨dst, .load ty x, tp, pos, aft, g⟩ d := by
 obtain ⟨i, hi⟩ := List.mem_iff_getElem?.1 hi
 exact L6 i hx hi hd hk
theorem Wt {x y : Operand} {b o m : Nat} {ty0 : TypeId} {cells cs : List T} {d : T} {H' : Qc} (hx : t.ev x = .v (.pointer (some ⟨b, o, none⟩))) (hy : t.ev y = d)
  (hi : Jw H (b, ⟨ty0, cells, m⟩) (b, ⟨ty0, cs, m⟩) H') (hc : ZB cells o d.cells cs)
  (hs : VN K.P ty = some d.cells.length) (hp : Nat.blt 0 d.cells.length = true) (hl : QG d.cells = true) (h : N t H') : EOp K t H ⟨none, .store ty x y, tp, pos, aft, g⟩ N := by
 obtain ⟨i, hi, rfl⟩ := hi
 refine LA i hx hi hy hs hp hl hc.eq.2 ?_
 simp only [hc.eq.1]
 exact h
theorem EK {x y : Operand} {b o m : Nat} {ty0 : TypeId} {cells : List T} {d : T} {H' : Qc} (hx : t.ev x = .v (.pointer (some ⟨b, o, none⟩))) (hy : t.ev y = d)
  (hi : Jw H (b, ⟨ty0, cells, m⟩) (b, ⟨ty0, lay cells o d.cells, m⟩) H')
  (hs : VN K.P ty = some d.cells.length) (hp : Nat.blt 0 d.cells.length = true) (hl : QG d.cells = true) (hc : o + d.cells.length ≤ cells.length) (h : N t H') : EOp K t H ⟨none, .store ty x y, tp, pos, aft, g⟩ N := by
 obtain ⟨i, hi, rfl⟩ := hi
 exact LA i hx hi hy hs hp hl hc h
theorem O7 {x y : Operand} {b o n c m : Nat} {ty0 : TypeId} {cells : List T} {f : Bool} {xs : List T} {kk : Nat} {H' : Qc} (hx : t.ev x = .v (.slice (some ⟨b, o, none⟩) n c)) (hy : t.ev y = .sl f xs)
  (hi : Jw H (b, ⟨ty0, cells, m⟩) (b, ⟨ty0, lay cells o ((xs.take (min xs.length n)).flatMap T.cells), m⟩) H')
  [hs : Zb K.P ty kk] (hp : Nat.blt 0 kk = true) (hk : ∀ x ∈ xs, x.cells.length = kk) (hl : ∀ x ∈ xs, QG x.cells = true) (ho : o + min xs.length n * kk ≤ cells.length) {kd : Tmp} (hd : Nat.blt kd K.n = true)
  (h : N ((kd, .v (.int .i64 (min xs.length n : Nat))) :: t) H') : EOp K t H ⟨some kd, .call ⟨.builtin .copy, #[x, y], #[ty, ty']⟩, tp, pos, aft, g⟩ N := by
 obtain ⟨i, hi, rfl⟩ := hi
 exact I8 i hx hy hi rfl hp hk hl ho hd h
theorem Ec {k : Tmp} {ty : TypeId} {rs : List ResultVar} {ds : List T} {b n m : Nat} {ty0 : TypeId} {cells cs : List T} (h : t.get k = .v (.pointer (some ⟨b, 0, none⟩))) (hi : (b, (⟨ty0, cells, m⟩ : Blk)) ∈ H) [ha : U9 P ty n]
  (hc : Xs cells 0 n cs) (hs : YO P t H rs ds) : YO P t H (.cell k ty :: rs) (.agg cs :: ds) := by
 obtain ⟨i, hi⟩ := List.mem_iff_getElem?.1 hi
 exact ⟨⟨i, b, _, h, hi, .inl ⟨n, ha.h, by simpa using ha.z, by simpa using hc.eq.2, by have := hc.eq.1; simp at this; rw [this]⟩⟩, hs⟩
theorem MU {k : Tmp} {ty : TypeId} {rs : List ResultVar} {ds : List T} {b m : Nat} {ty0 : TypeId} {cells : List T} {d : T} (h : t.get k = .v (.pointer (some ⟨b, 0, none⟩))) (hi : (b, (⟨ty0, d :: cells, m⟩ : Blk)) ∈ H)
  (hl : QC P ty = true) (hs : YO P t H rs ds) : YO P t H (.cell k ty :: rs) (d :: ds) := by
 obtain ⟨i, hi⟩ := List.mem_iff_getElem?.1 hi
 exact ⟨⟨i, b, _, h, hi, .inr ⟨hl, rfl⟩⟩, hs⟩
end
end
end Go.Cap
