/-
  The rules for blocks that a call owns: made, read, written, and given up, to be data that stays.
-/
import Derived.Test.YtjbokbikkcfjjaaGreatAac
set_option maxRecDepth 16000
set_option maxHeartbeats 8000000
set_option linter.all false
namespace Go.Cap
section
variable {K : Ctx} {P : Program} {t : Env} {H : Qc} {dst : Option Tmp} {tp : TypeId} {pos : String} {aft : Array Edge} {g : Option (Nat × Bool)} {N : Env → Qc → Prop}
variable {S : Nat → Prop} {w : World} {ty : TypeId}
theorem R1.fresh0 {a : Act} (h : R1 K t H a w S) {k : Blk} {o : Obj} (hko : Has S (w.alloc o) w.heap.size k)
  {d : T} {v : Value} (hd : Xo dst K.n = true) (hv : Rel S w d v) :
  R1 K (t.put dst d) ((w.heap.size, k) :: H) (a.put dst v) (w.alloc o) S := by
 have hm := Zs h.wf o (S' := S) (fun _ h => h)
 refine ⟨by simp [h.size], (h.defers.step hm (V1 w _) (by simp)).put hd, h.step.trans (ZZ h.wf _ []) (by simp), ⟨?_, ?_, ?_⟩, ?_, (h.env.mono hm).put (by rw [h.size]; exact hd) (hv.mono hm)⟩
 ·show (w.heap.size :: keys H).Nodup
  rw [List.nodup_cons]
  exact ⟨fun hm' => by have := h.own.lt _ hm'; omega, h.own.nodup⟩
 ·intro b hb hS
  rcases List.mem_cons.1 (show b ∈ w.heap.size :: keys H from hb) with hb | hb
  ·have := h.wf b hS; omega
  ·exact h.own.apart b hb hS
 ·intro p hp
  rcases List.mem_cons.1 hp with hp | hp
  ·subst hp
   exact hko
  ·have h1 := h.own.has p hp
   exact h1.mono (X0 w _ h1.lt) hm
 ·intro b hb
  rcases List.mem_cons.1 (show b ∈ w.heap.size :: keys H from hb) with hb | hb
  ·exact .inr (by have := h.step.size; omega)
  ·exact h.mine b hb
theorem R1.fresh {a : Act} (h : R1 K t H a w S) {ty1 : TypeId} {k : Blk} {cs : Array Value} (hs : cs.size = k.size) (hl : k.cells.length ≤ k.size) (hr : Qr S w k.cells (cs.toList.take k.cells.length))
  {d : T} {v : Value} (hd : Xo dst K.n = true) (hv : Rel S w d v) (hT : k.ty = .ty ty1 := by rfl) :
  R1 K (t.put dst d) ((w.heap.size, k) :: H) (a.put dst v) (w.alloc (.cells cs ty1)) S :=
 h.fresh0 (Has.of hT ⟨cs, YZ w _, hs, hl, hr.mono (Zs h.wf _ (fun _ h => h))⟩) hd hv
theorem Yw {a : Act} (h : R1 K t H a w S) : ∀ b ∈ keys H, ¬ b = w.heap.size := fun b hb => by have := h.own.lt b hb; omega
theorem O9 {z : List T} [hz : QZ K.P ty z] {kd : Tmp} (hd : Nat.blt kd K.n = true)
  (h : ∀ b, (∀ c ∈ keys H, ¬ c = b) → N ((kd, .v (.pointer (some ⟨b, 0, none⟩))) :: t) ((b, ⟨ty, z, z.length⟩) :: H)) : EOp K t H ⟨some kd, .alloc ty, tp, pos, aft, g⟩ N := by
 refine EOp.of_w (fun c e => by cases e) ?_
 intro a w ⟨S, hr⟩ Kc Q hk
 obtain ⟨i, zv, hi, hzz, rfl, h0⟩ := GZ hz.h
 have hti : ∀ w, (typeInfo ty).run K.P w = .ok i w := fun w => by simp [typeInfo, hi]
 have hrun : (execOp a.eval ⟨some kd, .alloc ty, tp, pos, aft, g⟩).run K.P w = .ok (.value (.pointer (some ⟨w.heap.size, 0, none⟩))) (w.alloc (.cells zv.cells ty)) := by
  simp [execOp, Instr.alloc, zeroValue, hti, hzz, newVar, newRow]
 unfold Oper.wp
 rw [hrun]
 have hl := Xl zv
 refine hk _ _ _ _ (h w.heap.size (Yw hr)) ⟨S, hr.fresh (dst := some kd) (k := ⟨ty, (T.ofVal zv).cells, (T.ofVal zv).cells.length⟩) (by simp [hl]) (Nat.le_refl _) ?_ hd (.v _)⟩
 simp only
 rw [List.take_of_length_le (by simp [hl])]
 exact (Rel.ofVal zv).cells h0
theorem DE {x : Operand} {d : T} {cs : List T} (hx : t.ev x = d) (hc : d.cells = cs) (hp : 0 < cs.length) {kd : Tmp} (hd : Nat.blt kd K.n = true)
  (h : ∀ b, (∀ c ∈ keys H, ¬ c = b) → N ((kd, .v (.pointer (some ⟨b, 0, none⟩))) :: t) ((b, ⟨ty, cs, cs.length⟩) :: H)) : EOp K t H ⟨some kd, .box ty x, tp, pos, aft, g⟩ N := by
 subst hc
 refine EOp.of_w (fun c e => by cases e) ?_
 intro a w ⟨S, hr⟩ Kc Q hk
 have hxr := hr.env.ev x
 rw [hx] at hxr
 have hrun : (execOp a.eval ⟨some kd, .box ty x, tp, pos, aft, g⟩).run K.P w = .ok (.value (.pointer (some ⟨w.heap.size, 0, none⟩))) (w.alloc (.cells (a.eval x).cells ty)) := by
  simp [execOp, Instr.box, newVar, newRow]
 unfold Oper.wp
 rw [hrun]
 have hl := hxr.size hp
 refine hk _ _ _ _ (h w.heap.size (Yw hr)) ⟨S, hr.fresh (dst := some kd) (k := ⟨ty, d.cells, d.cells.length⟩) (by simp [hl]) (Nat.le_refl _) ?_ hd (.v _)⟩
 simp only
 rw [List.take_of_length_le (by simp [hl])]
 exact hxr.cells hp
theorem GO {x : Operand} {cs : List T} (hx : t.ev x = .agg cs) (hp : Nat.blt 0 cs.length = true) {kd : Tmp} (hd : Nat.blt kd K.n = true)
  (h : ∀ b, (∀ c ∈ keys H, ¬ c = b) → N ((kd, .v (.pointer (some ⟨b, 0, none⟩))) :: t) ((b, ⟨ty, cs, cs.length⟩) :: H)) : EOp K t H ⟨some kd, .box ty x, tp, pos, aft, g⟩ N :=
 DE (cs := cs) hx rfl (by simpa using hp) hd h
theorem I9 {x : Operand} {d : T} (hx : t.ev x = d) (hl : d.isLeaf = true) {kd : Tmp} (hd : Nat.blt kd K.n = true)
  (h : ∀ b, (∀ c ∈ keys H, ¬ c = b) → N ((kd, .v (.pointer (some ⟨b, 0, none⟩))) :: t) ((b, ⟨ty, [d], 1⟩) :: H)) : EOp K t H ⟨some kd, .box ty x, tp, pos, aft, g⟩ N :=
 DE (cs := [d]) hx (by cases d with
  | v u => cases u <;> simp_all [T.isLeaf, T.cells, Value.cells]
  | _ => simp_all [T.isLeaf, T.cells]) (by simp) hd h
theorem Zu {α : Type} (l : List α) (n : Nat) : (List.replicate n l).flatten.length = n * l.length := by
 induction n with
 | zero => simp
 | succ n ih => rw [List.replicate_succ, List.flatten_cons, List.length_append, ih, Nat.succ_mul]; omega
theorem Ol {xs : List T} {ys : List Value} (h : Qr S w xs ys) (n : Nat) : Qr S w (List.replicate n xs).flatten (List.replicate n ys).flatten := by
 induction n with
 | zero => exact .nil
 | succ n ih => rw [List.replicate_succ, List.replicate_succ, List.flatten_cons, List.flatten_cons]; exact h.append ih
theorem I7 {x y : Operand} {n c : Int} {d : T} {by_ : Nat} {k k' : IntKind} (hx : t.ev x = .v (.int k n)) (hy : t.ev y = .v (.int k' c)) [hz : QL K.P ty d by_] (h0 : 0 ≤ n) (hnc : n ≤ c)
  (hb : c.toNat * by_ ≤ 281474976710656) (hm : c ≤ 9223372036854775807) {kd : Tmp} (hd : Nat.blt kd K.n = true)
  (h : ∀ b, (∀ c ∈ keys H, ¬ c = b) → N ((kd, .v (.slice (some ⟨b, 0, none⟩) n.toNat c.toNat)) :: t) ((b, ⟨Xk K.P ty, (List.replicate c.toNat d.cells).flatten, c.toNat * d.cells.length⟩) :: H)) :
  EOp K t H ⟨some kd, .makeSlice ty x y, tp, pos, aft, g⟩ N := by
 refine EOp.of_w (fun c e => by cases e) ?_
 intro a w ⟨S, hr⟩ Kc Q hk
 have h1 := hr.env.ev x; rw [hx] at h1
 have h2 := hr.env.ev y; rw [hy] at h2
 obtain ⟨e, i, z, hu, hi, hzz, hs, hp, rfl, hby⟩ := Yx hz.h
 obtain ⟨m, rfl⟩ := Int.eq_ofNat_of_zero_le h0
 obtain ⟨l, rfl⟩ := Int.eq_ofNat_of_zero_le (Int.le_trans h0 hnc)
 have hrun := An hu hi hzz hs (k := k) (k' := k') (n := m) (c := l) (by omega) (by omega) (by rw [hby, Nat.mul_comm]; exact hb) w
 have hee : Xk K.P ty = e := by unfold Xk; rw [hu]
 unfold Oper.wp
 simp only [execOp, h1.v_eq, h2.v_eq]
 rw [Sem.run_bind, hrun]
 have hl := Xl z
 have hlen := Zu (T.ofVal z).cells l
 have hz' : Qr S w (T.ofVal z).cells z.cells.toList := (Rel.ofVal z).cells (by omega)
 have hrel := Ol hz' l
 have hk2 := hk _ _ _ _ (h w.heap.size (Yw hr)) ⟨S, hr.fresh (dst := some kd) (k := ⟨Xk K.P ty, (List.replicate l (T.ofVal z).cells).flatten, l * (T.ofVal z).cells.length⟩)
  (cs := (Array.range (l * z.cells.size)).map fun j => z.cells[j % z.cells.size]!) (by simp [hl]) (by simp only; rw [hlen]; exact Nat.le_refl _) (by
   simp only
   rw [El, List.take_of_length_le (by rw [hlen, Ub, hl]; simp)]
   exact hrel) hd (.v (.slice (some ⟨w.heap.size, 0, none⟩) m l))⟩
 rw [hee] at hk2
 exact hk2
theorem Own.at {i : Nat} {b : Nat} {k : Blk} (h : Own S w H) (hi : H[i]? = some (b, k)) : Has S w b k := h.has (b, k) (List.mem_of_getElem? hi)
theorem D5 {cs : Array Value} {xs : List T} (h : Qr S w xs (cs.toList.take xs.length)) {o n : Nat} (hn : o + n ≤ xs.length) :
  Qr S w ((xs.drop o).take n) ((cs.toList.drop o).take n) := by
 have := (h.drop o).take n
 rwa [List.drop_take, List.take_take, Nat.min_eq_left (by omega)] at this
theorem UX {x : Operand} {b o n : Nat} {k : Blk} (i : Nat) (hx : t.ev x = .v (.pointer (some ⟨b, o, none⟩))) (hi : H[i]? = some (b, k)) [hk : U9 P ty n]
  (hn : Nat.ble (o + n) k.cells.length = true) : POp P t H ⟨dst, .load ty x, tp, pos, aft, g⟩ (.agg ((k.cells.drop o).take n)) :=
 POp.still fun S w a _ ho hr => by
  have h1 := hr x (by simp [Op.operands]); rw [hx] at h1
  obtain ⟨hag, inf, hinf, hs⟩ := ME hk.h
  have hn' : o + n ≤ k.cells.length := Nat.le_of_ble_eq_true hn
  rcases (ho.at hi).cases with ⟨ty1, hT, cs, hb, hsz, hl, hrl⟩ | ⟨y, rfl, hM⟩
  case inr =>
   have h1 : 0 < n := by simpa using hk.z
   simp only [List.length_nil] at hn'; omega
  have hrel := D5 hrl hn'
  refine ⟨.agg ((cs.toList.drop o).take n).toArray, ?_, .agg _ _ hrel⟩
  have := Z3 (P := P) (w := w) (o := o) (n := n) hb ((cs.toList.drop o).take n) (by simp; omega) rfl
  simp only [execOp, h1.v_eq, Instr.loadAt, Instr.sureAddr, loadVar, Sem.run_bind, Sem.run_pure, Result.andThen_ok, hag w, if_true, Qy hinf, hs, this]
theorem L6 {x : Operand} {b o : Nat} {k : Blk} {d : T} (i : Nat) (hx : t.ev x = .v (.pointer (some ⟨b, o, none⟩))) (hi : H[i]? = some (b, k)) (hd : k.cells[o]? = some d) (hk : QC P ty = true) :
  POp P t H ⟨dst, .load ty x, tp, pos, aft, g⟩ d :=
 POp.still fun S w a _ ho hr => by
  have h1 := hr x (by simp [Op.operands]); rw [hx] at h1
  rcases (ho.at hi).cases with ⟨ty1, hT, cs, hb, hsz, hl, hrl⟩ | ⟨y, rfl, hM⟩
  case inr => simp at hd
  obtain ⟨y, hy, hr'⟩ := hrl.get hd
  refine ⟨y, ?_, hr'⟩
  rw [List.getElem?_take] at hy
  split at hy
  ·have hcell' : w.cell? ⟨b, o, none⟩ = some y := by rw [YK hb]; simpa using hy
   simp [execOp, h1.v_eq, Instr.loadAt, Instr.sureAddr, loadVar, Jk hk w, run_load, hcell']
  ·cases hy
theorem Uz {x : Operand} {f b o off n : Nat} {ag : Bool} (hx : t.ev x = .v (.pointer (some ⟨b, o, none⟩))) [hf : Q6 P ty f off n ag] (hn : Nat.blt 0 n = true) :
  POp P t H ⟨dst, .fieldAddr ty x f, tp, pos, aft, g⟩ (.v (.pointer (some ⟨b, o + off, none⟩))) :=
 POp.still fun S w a _ _ hr => by
  have h1 := hr x (by simp [Op.operands]); rw [hx] at h1
  obtain ⟨fs, fx, i, hus, hfx, hoff, hi, hsz, _⟩ := Mr hf.h
  have : ¬ n = 0 := by
   have : 0 < n := by simpa using hn
   omega
  exact ⟨_, by simp [execOp, h1.v_eq, Instr.fieldAt, run_underlying hus, hfx, Instr.sureAddr, fieldPlace, Qy hi, hsz, hoff, Addr.add_mk, this], .v _⟩
theorem ZL {x y : Operand} {b o n c k : Nat} {i : Int} {kd : IntKind} (hx : t.ev x = .v (.slice (some ⟨b, o, none⟩) n c)) (hy : t.ev y = .v (.int kd i)) [hs : Zb P ty k]
  (h0 : 0 ≤ i) (h1 : i < n) : POp P t H ⟨dst, .indexAddr ty x y, tp, pos, aft, g⟩ (.v (.pointer (some ⟨b, o + i.toNat * k, none⟩))) :=
 POp.still fun S w a _ _ hr => by
  have hx' := hr x (by simp [Op.operands]); rw [hx] at hx'
  have hy' := hr y (by simp [Op.operands]); rw [hy] at hy'
  obtain ⟨e, inf, hu, hi, hsz⟩ := Mw hs.h
  exact ⟨_, by simp [execOp, hx'.v_eq, hy'.v_eq, Instr.indexAt, asIntOf, run_underlying hu, Qy hi, hsz, h0, h1, Addr.add_mk], .v _⟩
theorem Uy {x y : Operand} {b o n k : Nat} {i : Int} {kd : IntKind} (hx : t.ev x = .v (.pointer (some ⟨b, o, none⟩))) (hy : t.ev y = .v (.int kd i)) [hs : BW P ty n k]
  (h0 : 0 ≤ i) (h1 : i < n) : POp P t H ⟨dst, .indexAddr ty x y, tp, pos, aft, g⟩ (.v (.pointer (some ⟨b, o + i.toNat * k, none⟩))) :=
 POp.still fun S w a _ _ hr => by
  have hx' := hr x (by simp [Op.operands]); rw [hx] at hx'
  have hy' := hr y (by simp [Op.operands]); rw [hy] at hy'
  obtain ⟨e, inf, hu, hi, hsz⟩ := AW hs.h
  exact ⟨_, by simp [execOp, hx'.v_eq, hy'.v_eq, Instr.indexAt, asIntOf, run_underlying hu, Qy hi, hsz, h0, h1, Addr.add_mk, Instr.sureAddr], .v _⟩
def lay {α : Type} (l : List α) (o : Nat) (xs : List α) : List α := l.take o ++ xs ++ l.drop (o + xs.length)
theorem Dl {b : Nat} {k k' : Blk} {i : Nat} (hi : H[i]? = some (b, k)) : keys (H.set i (b, k')) = keys H := by
 unfold keys
 rw [List.map_set]
 refine List.ext_getElem? fun j => ?_
 rw [List.getElem?_set]
 split
 ·rename_i e; subst e
  simp [hi]
  exact (List.getElem?_eq_some_iff.1 hi).1
 ·rfl
theorem Uc {α : Type} {l xs : List α} {o : Nat} (h : o + xs.length ≤ l.length) : (lay l o xs).length = l.length := by
 simp [lay]; omega
theorem MW {xs ys : List T} {us vs : List Value} (h : Qr S w xs us) (h' : Qr S w ys vs) (o : Nat) : Qr S w (lay xs o ys) (lay us o vs) := by
 unfold lay
 rw [h'.length]
 exact ((h.take o).append h').append (h.drop _)
theorem R1.write {a : Act} (h : R1 K t H a w S) {ty1 : TypeId} {i b o : Nat} {k : Blk} (hT : k.ty = .ty ty1) {xs : List T} {us : List Value} {w' : World} {cs' : Array Value} (hi : H[i]? = some (b, k)) (ho1 : o ≤ k.cells.length) (ho : o + xs.length ≤ k.size)
  (hw1 : w'.os = w.os) (hw2 : w'.tape = w.tape) (hw3 : w'.output = w.output) (hsz : w'.heap.size = w.heap.size) (hoth : ∀ c, ¬ c = b → w'.heap[c]? = w.heap[c]?)
  (hb : w'.heap[b]? = some (.cells cs' ty1 (0, 0))) (hcs : ∀ cs : Array Value, w.heap[b]? = some (.cells cs ty1 (0, 0)) → cs'.toList = lay cs.toList o us) (hx : Qr S w xs us) :
  R1 K t (H.set i (b, ⟨k.ty, lay k.cells o xs, k.size⟩)) a w' S := by
 have hbk : b ∈ keys H := List.mem_map.2 ⟨_, List.mem_of_getElem? hi, rfl⟩
 have hnS : ¬ S b := h.own.apart b hbk
 have hm : ∀ c, S c → S c ∧ w'.heap[c]? = w.heap[c]? := fun c hc => ⟨hc, hoth c (fun e => hnS (e ▸ hc))⟩
 have hkeys := Dl (k' := ⟨k.ty, lay k.cells o xs, k.size⟩) hi
 obtain ⟨cs, hc1, hc2, hc3, hc4⟩ := (h.own.at hi).row hT
 have hcs2 := hcs cs hc1
 have hul := hx.length
 have hst : QN [b] S w S w' := ⟨hw1, hw2, hw3, by omega, fun c _ hn => hoth c (by simpa using hn), fun _ h => h, fun _ h => .inl h, fun c hc => by have := h.wf c hc; omega⟩
 refine ⟨h.size, h.defers.step hm (hst.objs fun c hc => ⟨_, by simp at hc; subst hc; exact hc1, rfl⟩) hst.size, h.step.trans hst (fun c hc => by simp at hc; subst hc; exact h.mine c hbk), ⟨?_, ?_, ?_⟩, by rw [hkeys]; exact h.mine, h.env.mono hm⟩
 ·rw [hkeys]; exact h.own.nodup
 ·rw [hkeys]; exact h.own.apart
 ·intro p hp
  obtain ⟨j, hj⟩ := List.mem_iff_getElem?.1 hp
  rw [List.getElem?_set] at hj
  by_cases hij : i = j
  ·subst hij
   rw [if_pos rfl, if_pos (List.getElem?_eq_some_iff.1 hi).1] at hj
   cases hj
   refine Has.of hT ⟨cs', hb, ?_, ?_, ?_⟩
   ·have hll : (lay cs.toList o us).length = cs.toList.length := Uc (by rw [show cs.toList.length = cs.size from Array.length_toList]; omega)
    have := congrArg List.length hcs2
    rw [hll] at this
    simpa [hc2] using this
   ·simp only [lay, List.length_append, List.length_take, List.length_drop]; omega
   ·simp only
    rw [hcs2]
    have := MW hc4 hx o
    have e : (lay cs.toList o us).take (lay k.cells o xs).length = lay (cs.toList.take k.cells.length) o us := by
     have hcsl : cs.toList.length = k.size := by rw [Array.length_toList]; exact hc2
     refine List.ext_getElem? fun m => ?_
     simp only [lay, List.getElem?_take, List.getElem?_append, List.length_append, List.length_take, List.length_drop, List.getElem?_drop, hcsl]
     rw [Nat.min_eq_left (show o ≤ k.size by omega), Nat.min_eq_left hc3, Nat.min_eq_left (show o ≤ k.cells.length by omega)]
     repeat' split
     all_goals first | rfl | omega | (simp; omega)
    rw [e]
    exact this.mono hm
  ·rw [if_neg hij] at hj
   have hpm : p ∈ H := List.mem_of_getElem? hj
   have hne : ¬ p.1 = b := by
    intro e
    have hnd := h.own.nodup
    have h1 : (keys H)[i]? = some b := by simp [keys, hi]
    have h2 : (keys H)[j]? = some b := by simp [keys, hj, e]
    have h3 := (List.getElem?_eq_some_iff.1 h1)
    have h4 := (List.getElem?_eq_some_iff.1 h2)
    exact hij ((List.getElem_inj hnd).1 (h3.2.trans h4.2.symm))
   exact (h.own.has p hpm).mono (hoth _ hne) hm
theorem Zn {cs : Array Value} {b o : Nat} {ty : TypeId} (hb : w.heap[b]? = some (.cells cs ty (0, 0))) (us : List Value) (ho : o + us.length ≤ cs.size) (h1 : ∀ v ∈ us, v.oneCell' = true) :
  (storeCells ⟨b, o, none⟩ us).run P w = .ok () (w.setRow b (lay cs.toList o us).toArray) := by
 have := run_storeCells_at P b o ty us 0 cs w hb (by omega) h1
 simpa [lay] using this
theorem JD {cs cs' : Array Value} {b : Nat} {ty : TypeId} {fz : Nat × Nat} (hb : w.heap[b]? = some (.cells cs ty fz)) :
  (w.setRow b cs').heap[b]? = some (.cells cs' ty fz) ∧ (∀ c, ¬ c = b → (w.setRow b cs').heap[c]? = w.heap[c]?) ∧ (w.setRow b cs').heap.size = w.heap.size ∧
   (w.setRow b cs').os = w.os ∧ (w.setRow b cs').tape = w.tape ∧ (w.setRow b cs').output = w.output := by
 refine ⟨?_, fun c hc => ?_, by simp, rfl, rfl, rfl⟩
 ·simp [World.setRow, Array.getElem?_modify, hb]
 ·simp only [World.setRow, Array.getElem?_modify]
  rw [if_neg (by omega)]
def QG (xs : List T) : Bool := xs.all T.isLeaf
theorem UW {xs : List T} {us : List Value} (h : Qr S w xs us) (hl : QG xs = true) : ∀ v ∈ us, v.oneCell' = true := by
 intro v hv
 obtain ⟨j, hj⟩ := List.mem_iff_getElem?.1 hv
 have hlen := h.length
 have hjl : j < xs.length := by have := (List.getElem?_eq_some_iff.1 hj).1; omega
 obtain ⟨y, hy, hr⟩ := h.get (i := j) (x := xs[j]) (by simp [hjl])
 rw [hj] at hy; cases hy
 exact (hr.leaf_cells (List.all_eq_true.1 hl _ (List.getElem_mem hjl))).2
def VN (P : Program) (t : TypeId) : Option Nat := (P.info? t).map (·.size)
theorem LA {x y : Operand} {b o : Nat} {k : Blk} {d : T} (i : Nat) (hx : t.ev x = .v (.pointer (some ⟨b, o, none⟩))) (hi : H[i]? = some (b, k)) (hy : t.ev y = d)
  (hs : VN K.P ty = some d.cells.length) (hp : Nat.blt 0 d.cells.length = true) (hl : QG d.cells = true) (ho : o + d.cells.length ≤ k.cells.length)
  (h : N t (H.set i (b, ⟨k.ty, lay k.cells o d.cells, k.size⟩))) : EOp K t H ⟨none, .store ty x y, tp, pos, aft, g⟩ N := by
 refine EOp.of_w (fun c e => by cases e) ?_
 intro a w ⟨S, hr⟩ Kc Q hk
 have h1 := hr.env.ev x; rw [hx] at h1
 have h2 := hr.env.ev y; rw [hy] at h2
 have hp' : 0 < d.cells.length := by simpa using hp
 obtain ⟨ty1, hT, cs, hb, hsz, hle, hrl⟩ := (hr.own.at hi).cases.resolve_right (by rintro ⟨_, rfl, _⟩; simp only [List.length_nil] at ho; omega)
 have hrc := h2.cells hp'
 have hsize := h2.size hp'
 obtain ⟨inf, hinf, his⟩ : ∃ inf, K.P.info? ty = some inf ∧ inf.size = d.cells.length := by
  unfold VN at hs
  cases hi : K.P.info? ty with
  | none => rw [hi] at hs; cases hs
  | some inf => rw [hi] at hs; exact ⟨inf, rfl, by simpa using hs⟩
 have hst := Zn (P := K.P) (o := o) hb (a.eval y).cells.toList (by simp; omega) (UW hrc hl)
 obtain ⟨s1, s2, s3, s4, s5, s6⟩ := JD (cs' := (lay cs.toList o (a.eval y).cells.toList).toArray) hb
 unfold Oper.wp
 have hrun : (execOp a.eval ⟨none, .store ty x y, tp, pos, aft, g⟩).run K.P w = .ok .skip (w.setRow b (lay cs.toList o (a.eval y).cells.toList).toArray) := by
  simp only [execOp, h1.v_eq, Instr.storeAt, Instr.sureAddr, storeVar, Sem.run_bind, Sem.run_pure, Result.andThen_ok, Qy hinf, his, hsize]
  simp [hst]
 rw [hrun]
 refine hk _ _ _ _ h ⟨S, ?_⟩
 exact hr.write hT (xs := d.cells) (us := (a.eval y).cells.toList) hi (by omega) (by omega) s4 s5 s6 s3 s2 s1 (fun cs2 h2 => by rw [hb] at h2; cases h2; rfl) hrc
end
section
variable {K : Ctx} {P : Program} {t : Env} {H : Qc} {dst : Option Tmp} {tp : TypeId} {pos : String} {aft : Array Edge} {g : Option (Nat × Bool)} {N : Env → Qc → Prop}
variable {S : Nat → Prop} {w : World} {ty : TypeId}
def UN (place : Nat → Option (Nat × Nat)) (cells : List T) : List (Nat × T) → Option (List T)
 | [] => some cells
 | (i, d) :: rest => match place i with
  | none => none
  | some (off, size) => bif Nat.beq d.cells.length size && Nat.blt 0 d.cells.length && Nat.ble (off + d.cells.length) cells.length then UN place (lay cells off d.cells) rest else none
theorem Wn (us : List Value) (off : Nat) : ∀ (vs : List Value) (n : Nat) (cs : Array Value), (∀ cs' : Array Value, cs'.toList = lay cs.toList (off + n) vs → off + n + vs.length ≤ cs.size →
  ((vs.zipIdx n).foldl (fun (cs : Array Value) p => cs.setIfInBounds (off + p.2) p.1) cs) = cs')
 | [], n, cs, cs', h, _ => by
  apply Array.ext'
  simp [lay] at h
  simp [h]
 | v :: vs, n, cs, cs', h, hl => by
  simp only [List.zipIdx_cons, List.foldl_cons]
  refine Wn us off vs (n + 1) _ cs' ?_ (by simp at hl ⊢; omega)
  rw [h]
  have hlt : off + n < cs.size := by simp at hl; omega
  apply List.ext_getElem?
  intro m
  simp only [lay, Array.toList_setIfInBounds, List.getElem?_append, List.length_take, List.length_append, List.getElem?_take, List.getElem?_drop, List.length_set, List.getElem?_set, List.length_cons,
   Array.length_toList]
  rw [Nat.min_eq_left (show off + n ≤ cs.size by omega), Nat.min_eq_left (show off + (n + 1) ≤ cs.size by simp at hl; omega)]
  by_cases h1 : m < off + n
  ·rw [if_pos (by omega), if_pos h1, if_pos h1, if_pos (by omega), if_pos (by omega), if_pos (by omega), if_neg (by omega)]
  ·by_cases h2 : m = off + n
   ·subst h2
    rw [if_pos (by omega), if_neg (by omega), if_pos (by omega), if_pos (by omega), if_pos (by omega), if_pos rfl, if_pos hlt]
    simp
   ·by_cases h3 : m < off + n + (vs.length + 1)
    ·rw [if_pos (by omega), if_neg (by omega), if_pos (by omega), if_neg (by omega)]
     rw [show m - (off + n) = (m - (off + (n + 1))) + 1 by omega, List.getElem?_cons_succ]
    ·rw [if_neg (by omega), if_neg (by omega), if_neg (by omega)]
     rw [show off + n + (vs.length + 1) + (m - (off + n + (vs.length + 1))) = m by omega, show off + (n + 1) + vs.length + (m - (off + (n + 1) + vs.length)) = m by omega]
theorem DD {place : Nat → Option (Nat × Nat)} {a : Act} : ∀ (parts : List (Nat × Operand)) (cells : List T) (us : Array Value) (ds : List T), (∀ p ∈ parts, Rel S w (t.ev p.2) (a.eval p.2)) → Qr S w cells us.toList →
  UN place cells (parts.map fun p => (p.1, t.ev p.2)) = some ds → ∃ us' : Array Value, Instr.fill place us (parts.map fun p => (p.1, a.eval p.2)) = some us' ∧ Qr S w ds us'.toList
 | [], cells, us, ds, _, h, hd => by simp [UN] at hd; subst hd; exact ⟨us, rfl, h⟩
 | (i, x) :: parts, cells, us, ds, hp, h, hd => by
  simp only [List.map_cons, UN] at hd
  simp only [List.map_cons, Instr.fill]
  cases hpl : place i with
  | none => rw [hpl] at hd; cases hd
  | some os =>
   obtain ⟨off, size⟩ := os
   rw [hpl] at hd
   simp only at hd ⊢
   cases hc : (Nat.beq (t.ev x).cells.length size && Nat.blt 0 (t.ev x).cells.length && Nat.ble (off + (t.ev x).cells.length) cells.length) with
   | false => rw [hc] at hd; cases hd
   | true =>
    rw [hc, cond_true] at hd
    simp only [Bool.and_eq_true] at hc
    obtain ⟨⟨c1, c2⟩, c3⟩ := hc
    have e1 : (t.ev x).cells.length = size := Nat.eq_of_beq_eq_true c1
    have e2 : 0 < (t.ev x).cells.length := by simpa using c2
    have e3 := Nat.le_of_ble_eq_true c3
    have hx := hp (i, x) List.mem_cons_self
    have hsz : (a.eval x).cells.size = (t.ev x).cells.length := hx.size e2
    have hul := h.length
    have hlen : us.size = cells.length := by simpa using hul
    have hcond : (decide ((a.eval x).cells.size ≠ size) || decide (off + (a.eval x).cells.size > us.size)) = false := by
     simp; exact ⟨by simpa using hsz.trans e1, by omega⟩
    rw [hcond, if_neg (by simp)]
    have hf := Wn [] off (a.eval x).cells.toList 0 us (lay us.toList off (a.eval x).cells.toList).toArray (by simp) (by simp; omega)
    have e4 : ((a.eval x).cells.zipIdx.foldl (fun cs p => cs.setIfInBounds (off + p.2) p.1) us) = (lay us.toList off (a.eval x).cells.toList).toArray := by
     rw [← hf, ← Array.foldl_toList]; simp
    have e5 : ((a.eval x).cells.zipIdx.foldl (fun cs (x : Value × Nat) => match x with | (c, j) => cs.setIfInBounds (off + j) c) us) = (lay us.toList off (a.eval x).cells.toList).toArray := e4
    simp only at e5 ⊢
    rw [e5]
    exact DD parts _ _ ds (fun p hp' => hp p (List.mem_cons_of_mem _ hp')) (by simpa using MW h (hx.cells e2) off) hd
def Y5 (P : Program) (ty : TypeId) (i : Nat) : Option (Nat × Nat) := match P.underlying ty with
 | some (.struct fs) => (fs[i]?).bind fun f => (P.info? f.type).map fun inf => (f.offset, inf.size)
 | some (.array _ e) => (P.info? e).map fun inf => (i * inf.size, inf.size)
 | _ => none
def UO (P : Program) (ty : TypeId) : Bool := match P.underlying ty with
 | some (.struct fs) => fs.toList.all fun f => (P.info? f.type).isSome
 | some (.array _ e) => (P.info? e).isSome
 | _ => false
theorem Lg {parts : Array (Nat × Operand)} {z : List T} (n : Nat) (ds : List T) [hz0 : QZ P ty z] (_ : X3 P ty = some n) {ps : List (Nat × T)} (hok : UO P ty = true) (hp : EvP t parts.toList ps) (hd' : UN (Y5 P ty) z ps = some ds) :
  POp P t H ⟨dst, .build ty parts, tp, pos, aft, g⟩ (.agg ds) :=
 POp.still fun S w a _ _ hr => by
  have hd : UN (Y5 P ty) z (parts.toList.map fun p => (p.1, t.ev p.2)) = some ds := by rw [hp.eq]; exact hd'
  have hz := hz0.h
  unfold Jb at hz
  cases hzt : W2 P ty with
  | none => rw [hzt] at hz; cases hz
  | some d =>
   rw [hzt] at hz
   simp only at hz
   cases hc : Nat.blt 0 d.cells.length with
   | false => rw [hc] at hz; cases hz
   | true =>
    rw [hc, cond_true] at hz
    cases hz
    obtain ⟨i, zv, hi, hzz, rfl⟩ := LN hzt
    have hti : ∀ w, (typeInfo ty).run P w = .ok i w := fun w => by simp [typeInfo, hi]
    have hzr : Qr S w (T.ofVal zv).cells zv.cells.toList := (Rel.ofVal zv).cells (by simpa using hc)
    have hparts : ∀ p ∈ parts.toList, Rel S w (t.ev p.2) (a.eval p.2) := fun p hp => hr p.2 (by
     simp only [Op.operands, List.mem_toArray, List.mem_map]
     simp
     exact ⟨p.1, by simpa using hp⟩)
    obtain ⟨us, hus, hrel⟩ := DD (place := Y5 P ty) parts.toList _ zv.cells ds hparts hzr hd
    refine ⟨.agg us, ?_, by have := Rel.agg (S := S) (w := w) ds us.toList hrel; simpa using this⟩
    have hpl : ((parts.map fun p => (p.1, a.eval p.2)).toList) = parts.toList.map fun p => (p.1, a.eval p.2) := by simp
    unfold UO at hok
    have hz0 : ∀ w, (zeroValue ty).run P w = .ok zv w := fun w => by simp [zeroValue, hti, hzz]
    split at hok
    ·rename_i fs hfs
     have hall : ∀ f ∈ fs, (P.info? f.type).isSome = true := fun f hf => List.all_eq_true.1 hok f (by simpa using hf)
     have hmap : ∀ w, (fs.mapM fun (f : Field) => (do pure (f.offset, ← sizeOf f.type) : Sem (Nat × Nat))).run P w = .ok (fs.map fun f => (f.offset, (((P.info? f.type).map (·.size)).getD 0))) w := fun w =>
      Sem.mapM_array_run _ _ P w fs fun f hf => by
       have := hall f hf
       cases hfi : P.info? f.type with
       | none => rw [hfi] at this; cases this
       | some inf => simp [Qy hfi]
     have hplace : (fun i => (fs.map fun (f : Field) => (f.offset, (((P.info? f.type).map (·.size)).getD 0)))[i]?) = Y5 P ty := by
      funext i
      unfold Y5
      rw [hfs]
      simp only [Array.getElem?_map]
      cases hfi : fs[i]? with
      | none => rfl
      | some f =>
       have := hall f (Array.mem_of_getElem? hfi)
       cases hinf : P.info? f.type with
       | none => rw [hinf] at this; cases this
       | some inf => simp [hinf]
     have : (Instr.build ty (parts.map fun p => (p.1, a.eval p.2))).run P w = .ok (.agg us) w := by
      simp only [Instr.build, Sem.run_bind, hz0, Result.andThen_ok, run_underlying hfs, hmap, hplace, hpl, hus]
      rfl
     simp only [execOp, Sem.run_bind]
     have e : (parts.map fun x => match x with | (i, x) => (i, a.eval x)) = parts.map fun p => (p.1, a.eval p.2) := rfl
     rw [e, this]; rfl
    ·rename_i n e he
     obtain ⟨inf, hinf⟩ := Option.isSome_iff_exists.1 hok
     have hplace : (fun i => some (i * inf.size, inf.size)) = Y5 P ty := by
      funext i
      unfold Y5
      rw [he]; simp [hinf]
     have : (Instr.build ty (parts.map fun p => (p.1, a.eval p.2))).run P w = .ok (.agg us) w := by
      simp only [Instr.build, Sem.run_bind, hz0, Result.andThen_ok, run_underlying he, Qy hinf, hplace, hpl, hus]
      rfl
     simp only [execOp, Sem.run_bind]
     have e' : (parts.map fun x => match x with | (i, x) => (i, a.eval x)) = parts.map fun p => (p.1, a.eval p.2) := rfl
     rw [e', this]; rfl
    ·cases hok
def UC : List (Nat × Operand) → Nat → Bool
 | [], _ => true
 | p :: ps, i => Nat.beq p.1 i && UC ps (i + 1)
theorem Lz {e k : Nat} {a : Act} : ∀ (parts : List (Nat × Operand)) (i : Nat) (pre : List Value) (us : Array Value) (xs : List T), UC parts i = true → (∀ p ∈ parts, Rel S w (t.ev p.2) (a.eval p.2)) →
  parts.map (fun p => t.ev p.2) = xs → (∀ x ∈ xs, x.cells.length = k) → 0 < k → us.size = (i + parts.length) * k → pre.length = i * k → us.toList.take (i * k) = pre →
  ∃ (us' : Array Value) (vs : List Value), Instr.fill (fun i => some (i * k, k)) us (parts.map fun p => (p.1, a.eval p.2)) = some us' ∧ Qr S w xs vs ∧ (∀ v ∈ vs, v.cells.size = k) ∧
   us'.toList = pre ++ vs.flatMap fun v => v.cells.toList
 | [], i, pre, us, xs, _, _, hx, _, _, hs, hpl, hpre => by
  subst hx
  refine ⟨us, [], rfl, .nil, by simp, ?_⟩
  rw [List.take_of_length_le (by simp at hs ⊢; omega)] at hpre
  simpa using hpre
 | (j, x) :: parts, i, pre, us, xs, hok, hp, hx, hk, h0, hs, hpl, hpre => by
  simp only [UC, Bool.and_eq_true] at hok
  have hj : j = i := Nat.eq_of_beq_eq_true hok.1
  subst hj
  subst hx
  have hxr := hp (j, x) List.mem_cons_self
  have hxk : (t.ev x).cells.length = k := hk _ (by simp)
  have hsz : (a.eval x).cells.size = (t.ev x).cells.length := hxr.size (by show 0 < (t.ev x).cells.length; omega)
  have hus : us.toList.length = us.size := Array.length_toList
  have hmul : (j + (parts.length + 1)) * k = j * k + k + parts.length * k := by rw [Nat.add_mul, Nat.succ_mul]; omega
  simp only [List.length_cons] at hs
  have hmul2 : (j + 1 + parts.length) * k = j * k + k + parts.length * k := by rw [Nat.add_mul, Nat.add_mul]; omega
  simp only [List.map_cons, Instr.fill]
  have hcond : (decide ((a.eval x).cells.size ≠ k) || decide (j * k + (a.eval x).cells.size > us.size)) = false := by
   simp; exact ⟨by simpa using hsz.trans hxk, by omega⟩
  rw [hcond, if_neg (by simp)]
  have hf := Wn [] (j * k) (a.eval x).cells.toList 0 us (lay us.toList (j * k) (a.eval x).cells.toList).toArray (by simp) (by simp; omega)
  have e4 : ((a.eval x).cells.zipIdx.foldl (fun cs (x : Value × Nat) => match x with | (c, i) => cs.setIfInBounds (j * k + i) c) us) = (lay us.toList (j * k) (a.eval x).cells.toList).toArray := by
   rw [← hf, ← Array.foldl_toList]; simp
  simp only at e4 ⊢
  rw [e4]
  have hcl : (a.eval x).cells.toList.length = k := by rw [Array.length_toList, hsz, hxk]
  have htk : (us.toList.take (j * k)).length = j * k := by rw [hpre, hpl]
  obtain ⟨us', vs, h1, h2, h3, h4⟩ := Lz (e := e) parts (j + 1) (pre ++ (a.eval x).cells.toList) (lay us.toList (j * k) (a.eval x).cells.toList).toArray _ hok.2 (fun p hp' => hp p (List.mem_cons_of_mem _ hp')) rfl
   (fun y hy => hk y (by simp at hy ⊢; exact .inr hy)) h0 (by simp only [List.size_toArray]; rw [Uc (by omega)]; omega) (by rw [List.length_append, hpl, hcl, Nat.succ_mul]) (by
    simp only [lay]
    rw [List.take_append_of_le_length (by rw [List.length_append, htk, hcl, Nat.succ_mul]; omega), List.take_of_length_le (by rw [List.length_append, htk, hcl, Nat.succ_mul]; omega), hpre])
  refine ⟨us', a.eval x :: vs, h1, .cons _ _ _ _ hxr h2, ?_, ?_⟩
  ·intro v hv
   rcases List.mem_cons.1 hv with rfl | hv
   ·omega
   ·exact h3 v hv
  ·rw [h4, List.flatMap_cons, List.append_assoc]
theorem VV {n : Nat} {parts : Array (Nat × Operand)} {d : T} {by_ : Nat} {xs : List T} [hz : QL P ty d by_] (hp : UC parts.toList 0 = true) (hn : Nat.beq parts.toList.length n = true)
  (hb : n * d.cells.length ≤ 16777216) (hx' : EvQ t parts.toList xs) (hk : ∀ x ∈ xs, x.cells.length = d.cells.length) : POp P t H ⟨dst, .buildSlice ty n parts, tp, pos, aft, g⟩ (.sl true xs) :=
 POp.run fun S w a hw _ hr => by
  have hx : parts.toList.map (fun p => t.ev p.2) = xs := hx'.eq
  obtain ⟨e, i, z, hu, hi, hzz, hs, h0, rfl, hby⟩ := Yx hz.h
  have hl := Xl z
  have hn' : parts.toList.length = n := Nat.eq_of_beq_eq_true hn
  have hti : ∀ w, (typeInfo e).run P w = .ok i w := fun w => by simp [typeInfo, hi]
  have hz0 : ∀ w, (zeroValue e).run P w = .ok z w := fun w => by simp [zeroValue, hti, hzz]
  have hparts : ∀ p ∈ parts.toList, Rel S w (t.ev p.2) (a.eval p.2) := fun p hp => hr p.2 (by
   simp only [Op.operands, List.mem_toArray, List.mem_map]
   simp
   exact ⟨p.1, by simpa using hp⟩)
  obtain ⟨us, vs, h1, h2, h3, h4⟩ := Lz (e := 0) (k := z.cells.size) parts.toList 0 [] ((Array.range (n * i.size)).map (fun j => z.cells[j % z.cells.size]!)) xs hp hparts hx (fun x hx => by rw [hk x hx, hl]) h0
   (by simp [hs, ← hn']) (by simp) (by simp)
  have hvl := h2.length
  have hxl : xs.length = n := by rw [← hx]; simp [← hn']
  have hpl : ((parts.map fun p => (p.1, a.eval p.2)).toList) = parts.toList.map fun p => (p.1, a.eval p.2) := by simp
  have hrun : (Instr.buildSlice ty n (parts.map fun p => (p.1, a.eval p.2))).run P w = .ok (.slice (some ⟨w.heap.size, 0, none⟩) n n) (w.alloc (.cells us e)) := by
   have hlim : ¬ (n * i.size > 2 ^ 24) := by rw [hs, ← hl]; omega
   have e1 : (fun j => some (j * i.size, i.size)) = fun j => some (j * z.cells.size, z.cells.size) := by rw [hs]
   unfold Instr.buildSlice
   simp only [Sem.run_bind, run_underlying hu, Result.andThen_ok, Qy hi, hpl, hlim, if_false]
   by_cases hz1 : n * i.size = 0
   ·have hn0 : n = 0 := by
     rcases Nat.mul_eq_zero.1 hz1 with h | h
     ·exact h
     ·omega
    have hp0 : parts.toList = [] := List.length_eq_zero_iff.1 (by omega)
    subst hn0
    rw [hp0] at h1 ⊢
    simp only [List.map_nil, Instr.fill, Option.some.injEq] at h1
    subst h1
    have he : ∀ f : Nat → Value, Array.map f (Array.range 0) = #[] := fun f => Array.ext (by simp) (by simp)
    simp [newRow, Instr.fill, he]
   ·simp only [hz1, if_false, Sem.run_bind, hz0, Result.andThen_ok, Sem.run_pure]
    rw [e1, h1]
    simp [newRow]
  refine ⟨.slice (some ⟨w.heap.size, 0, none⟩) n n, w.alloc (.cells us e), ZH S w, ?_, W5 hw _, ?_⟩
  ·simp only [execOp, Sem.run_bind]
   have e' : (parts.map fun x => match x with | (i, x) => (i, a.eval x)) = parts.map fun p => (p.1, a.eval p.2) := rfl
   rw [e', hrun]; rfl
  ·have := Gc (f := true) (S := ZH S w) (w := w.alloc (.cells us e)) (cap := n) (k := z.cells.size) (.inr rfl) (YZ w _) (h2.mono (Zs hw _ (fun _ h => .inl h))) h3 (by
    rw [h4, List.nil_append, List.take_of_length_le]
    have : ∀ (l : List Value), (∀ v ∈ l, v.cells.size = z.cells.size) → (l.flatMap fun v => v.cells.toList).length = l.length * z.cells.size := by
     intro l
     induction l with
     | nil => simp
     | cons x l ih => intro h; rw [List.flatMap_cons, List.length_append, ih (fun y hy => h y (List.mem_cons_of_mem _ hy)), Array.length_toList, h x List.mem_cons_self, List.length_cons, Nat.succ_mul]; omega
    rw [this vs h3]; exact Nat.le_refl _) (fun _ => by omega) (by omega)
   rw [hvl, hxl] at this
   exact this
end
section
variable {K : Ctx} {P : Program} {t : Env} {H : Qc} {dst : Option Tmp} {tp : TypeId} {pos : String} {aft : Array Edge} {g : Option (Nat × Bool)} {N : Env → Qc → Prop}
variable {S : Nat → Prop} {w : World} {ty ty' : TypeId}
theorem UM {k : Nat} : ∀ (l : List Value), (∀ v ∈ l, v.cells.size = k) → (l.flatMap fun v => v.cells.toList).length = l.length * k
 | [], _ => by simp
 | x :: l, h => by
  rw [List.flatMap_cons, List.length_append, UM l (fun y hy => h y (List.mem_cons_of_mem _ hy)), Array.length_toList, h x List.mem_cons_self, List.length_cons, Nat.succ_mul]; omega
theorem Ym {k : Nat} : ∀ (l : List T), (∀ v ∈ l, v.cells.length = k) → (l.flatMap T.cells).length = l.length * k
 | [], _ => by simp
 | x :: l, h => by
  rw [List.flatMap_cons, List.length_append, Ym l (fun y hy => h y (List.mem_cons_of_mem _ hy)), h x List.mem_cons_self, List.length_cons, Nat.succ_mul]; omega
theorem Ji {k : Nat} (h0 : 0 < k) : ∀ {xs : List T} {vs : List Value}, Qr S w xs vs → (∀ x ∈ xs, x.cells.length = k) →
  Qr S w (xs.flatMap T.cells) (vs.flatMap fun v => v.cells.toList) ∧ ∀ v ∈ vs, v.cells.size = k
 | [], _, .nil, _ => ⟨.nil, by simp⟩
 | _ :: _, _, .cons x y xs ys h hs, hk => by
  have hx := hk x List.mem_cons_self
  obtain ⟨h1, h2⟩ := Ji h0 hs (fun z hz => hk z (List.mem_cons_of_mem _ hz))
  have hsz := h.size (by omega)
  refine ⟨by rw [List.flatMap_cons, List.flatMap_cons]; exact (h.cells (by omega)).append h1, fun v hv => ?_⟩
  rcases List.mem_cons.1 hv with rfl | hv
  ·omega
  ·exact h2 v hv
theorem Jn {k : Nat} : ∀ (l : List Value) (m : Nat), (∀ v ∈ l, v.cells.size = k) → (l.flatMap fun v => v.cells.toList).take (m * k) = (l.take m).flatMap fun v => v.cells.toList
 | [], m, _ => by simp
 | x :: l, 0, _ => by simp
 | x :: l, m + 1, h => by
  have hx := h x List.mem_cons_self
  have : x.cells.toList.length = k := by rw [Array.length_toList, hx]
  rw [List.flatMap_cons, List.take_succ_cons, List.flatMap_cons, Nat.succ_mul, List.take_append, this]
  rw [List.take_of_length_le (by omega), show m * k + k - k = m * k by omega, Jn l m (fun y hy => h y (List.mem_cons_of_mem _ hy))]
theorem Jf {f : Bool} {xs : List T} {u : Value} {k : Nat} (h : Rel S w (.sl f xs) u) (hk : ∀ x ∈ xs, x.cells.length = k) (h0 : 0 < k) (m : Nat) (hm : m ≤ xs.length) :
  ∃ vs : List Value, (Builtin.firstCells k m u).run P w = .ok (vs.flatMap fun v => v.cells.toList).toArray w ∧ Qr S w (xs.take m) vs ∧ (∀ v ∈ vs, v.cells.size = k) ∧ vs.length = m := by
 cases h with
 | nil _ p c _ =>
  have hm0 : m = 0 := by simpa using hm
  subst hm0
  refine ⟨[], ?_, by simp; exact .nil, by simp, by simp⟩
  cases p with
  | none => simp [Builtin.firstCells]
  | some a =>
   have := run_loadCells_list (P := P) (w := w) a [] (fun j v hj => by simp at hj)
   simpa [Builtin.firstCells] using this
 | sl _ _ b o cap vs k' cs ty fz hS hb hr hg hf hc =>
  obtain ⟨h1, h2⟩ := Ji h0 hr hk
  have hvl := hr.length
  have hmv : ∀ v ∈ vs.take m, v.cells.size = k := fun v hv => h2 v (List.mem_of_mem_take hv)
  refine ⟨vs.take m, ?_, hr.take m, hmv, by rw [List.length_take]; omega⟩
  simp only [Builtin.firstCells]
  have hl := UM _ hmv
  rw [List.length_take, Nat.min_eq_left (by omega)] at hl
  refine Z3 hb _ hl ?_
  rw [← Jn vs m h2]
  rcases Nat.eq_zero_or_pos vs.length with hz | hz
  ·have : m = 0 := by omega
   subst this; simp
  ·have hk' : k' = k := by
    cases vs with
    | nil => simp at hz
    | cons v vs => rw [← hg.1 v List.mem_cons_self, h2 v List.mem_cons_self]
   subst hk'
   rw [← hg.2, List.take_take]
   congr 1
   have : m * k' ≤ vs.length * k' := Nat.mul_le_mul_right _ (by omega)
   omega
theorem Yk {f : Bool} {xs : List T} {u : Value} {k : Nat} (h : Rel S w (.sl f xs) u) (hk : ∀ x ∈ xs, x.cells.length = k) (h0 : 0 < k) (m : Nat) (hm : m ≤ xs.length) :
  ∃ us : List Value, (Builtin.firstCells k m u).run P w = .ok us.toArray w ∧ Qr S w ((xs.take m).flatMap T.cells) us ∧ us.length = m * k := by
 obtain ⟨vs, h1, h2, h3, h4⟩ := Jf (P := P) h hk h0 m hm
 exact ⟨_, h1, (Ji h0 h2 fun x hx => hk x (List.mem_of_mem_take hx)).1, by rw [UM vs h3, h4]⟩
theorem Zd {f : Bool} {xs : List T} {u : Value} (h : Rel S w (.sl f xs) u) : (Builtin.lenOf u).run P w = .ok xs.length w := by
 cases h with
 | nil => rfl
 | sl _ _ b o cap vs k' cs ty fz hS hb hr hg hf hc => rw [← hr.length]; rfl
theorem I8 {x y : Operand} {b o n c : Nat} {k : Blk} {f : Bool} {xs : List T} {kk : Nat} (i : Nat) (hx : t.ev x = .v (.slice (some ⟨b, o, none⟩) n c)) (hy : t.ev y = .sl f xs) (hi : H[i]? = some (b, k)) {ty1 : TypeId} (hT : k.ty = .ty ty1)
  [hs : Zb K.P ty kk] (hp : Nat.blt 0 kk = true) (hk : ∀ x ∈ xs, x.cells.length = kk) (hl : ∀ x ∈ xs, QG x.cells = true) (ho : o + min xs.length n * kk ≤ k.cells.length) {kd : Tmp} (hd : Nat.blt kd K.n = true)
  (h : N ((kd, .v (.int .i64 (min xs.length n : Nat))) :: t) (H.set i (b, ⟨k.ty, lay k.cells o ((xs.take (min xs.length n)).flatMap T.cells), k.size⟩))) :
  EOp K t H ⟨some kd, .call ⟨.builtin .copy, #[x, y], #[ty, ty']⟩, tp, pos, aft, g⟩ N := by
 refine EOp.of_w (fun c e => by cases e) ?_
 intro a w ⟨S, hr⟩ Kc Q hkc
 have h1 := hr.env.ev x; rw [hx] at h1
 have h2 := hr.env.ev y; rw [hy] at h2
 have hp' : 0 < kk := by simpa using hp
 obtain ⟨cs, hb, hsz, hle, hrl⟩ := (hr.own.at hi).row hT
 obtain ⟨e, inf, hu, hinf, his⟩ := Mw hs.h
 obtain ⟨us, hus, hrel, hul⟩ := Yk (P := K.P) h2 hk hp' (min xs.length n) (Nat.min_le_left _ _)
 have hleaf : QG ((xs.take (min xs.length n)).flatMap T.cells) = true := by
  unfold QG
  rw [List.all_eq_true]
  intro z hz
  obtain ⟨x', hx', hz⟩ := List.mem_flatMap.1 hz
  exact List.all_eq_true.1 (hl x' (List.mem_of_mem_take hx')) z hz
 have hst := Zn (P := K.P) (o := o) hb us (by omega) (UW hrel hleaf)
 obtain ⟨s1, s2, s3, s4, s5, s6⟩ := JD (cs' := (lay cs.toList o us).toArray) hb
 have hlay : ((xs.take (min xs.length n)).flatMap T.cells).length = us.length := hrel.length.symm
 have hrun : (execOp a.eval ⟨some kd, .call ⟨.builtin .copy, #[x, y], #[ty, ty']⟩, tp, pos, aft, g⟩).run K.P w = .ok (.value (.int .i64 (min xs.length n : Nat))) (w.setRow b (lay cs.toList o us).toArray) := by
  have e1 : (execOp a.eval ⟨some kd, .call ⟨.builtin .copy, #[x, y], #[ty, ty']⟩, tp, pos, aft, g⟩).run K.P w = ((Builtin.copy_ #[ty, ty'] tp #[a.eval x, a.eval y]).run K.P w).andThen fun v w' => .ok (.value v) w' := by
   simp [execOp, resolve, invoke, builtin]
  rw [e1, h1.v_eq]
  have e2 : (Builtin.copy_ #[ty, ty'] tp #[.slice (some ⟨b, o, none⟩) n c, a.eval y]).run K.P w = .ok (.int .i64 (min xs.length n : Nat)) (w.setRow b (lay cs.toList o us).toArray) := by
   simp only [Builtin.copy_]
   simp [run_underlying hu, Zd h2, Qy hinf, his]
   have : Nat.min xs.length n = min xs.length n := rfl
   rw [this, hus]
   simp [hst, goInt]
  rw [e2]; rfl
 unfold Oper.wp
 rw [hrun]
 refine hkc _ _ _ _ h ⟨S, ?_⟩
 have := hr.write hT (xs := (xs.take (min xs.length n)).flatMap T.cells) (us := us) (o := o) hi (by omega) (by rw [hlay, hul]; omega) s4 s5 s6 s3 s2 s1 (fun cs2 h2 => by rw [hb] at h2; cases h2; rfl) hrel
 exact ⟨by simp [this.size], this.defers.put (dst := some kd) hd, this.step, this.own, this.mine, this.env.put (dst := some kd) (by rw [this.size]; exact hd) (.v _)⟩
end
end Go.Cap
