/-
  Maps of one's own: made, looked up, written to.
-/
import Derived.Test.YtjbokbikkcfjjaaGreatAaj
import Derived.MapKept
set_option maxRecDepth 16000
set_option maxHeartbeats 8000000
set_option linter.all false
namespace Go.Cap
class B3 (P : Program) (ty : Nat) (kt et : outParam Nat) (kd : outParam TypeDesc) (z : outParam T) : Prop where
 h : P.underlying ty = some (.map kt et)
 hk : P.underlying kt = some kd
 hz : LP P et = some z
def keq : Value → Value → Bool
 | .int k a, .int k' b => decide (k = k') && decide (a = b)
 | .bool a, .bool b => a == b
 | .string a, .string b => decide (a.data = b.data)
 | _, _ => false
theorem UJ {a b : Value} (h : keq a b = true) : a = b := by
 cases a <;> cases b <;> simp_all [keq]
 rename_i x y
 obtain ⟨x⟩ := x
 obtain ⟨y⟩ := y
 simp_all
theorem WO {kd : TypeDesc} {k : Value} (h : MapKept.IsKey kd k) : keq k k = true := by
 cases kd <;> cases k <;> simp_all [keq, MapKept.IsKey]
def Yy : List (Value × T × Nat) → Value → Option T
 | [], _ => none
 | e :: es, k => if keq e.1 k then some e.2.1 else Yy es k
def WH : List (Value × T × Nat) → Value → T → List (Value × T × Nat)
 | [], _, _ => []
 | e :: es, k, x => if keq e.1 k then (k, x, e.2.2) :: es else e :: WH es k x
def D8 (es : List (Value × T × Nat)) (clock : Nat) (k : Value) (x : T) : BTy :=
 match Yy es k with
 | some _ => .map (WH es k x) clock
 | none => .map (es ++ [(k, x, clock)]) (clock + 1)
section
variable {S : Nat → Prop} {w : World}
theorem Jw.keys {es : List (Value × T × Nat)} {ms : List MapEntry} (h : Jw S w es ms) : ms.map (·.key) = es.map (·.1) := by
 induction h with
 | nil => rfl
 | cons k x n v es ms _ _ ih => simp [ih]
theorem Jw.none {es : List (Value × T × Nat)} {ms : List MapEntry} (h : Jw S w es ms) {k : Value} (hn : ∀ x ∈ ms, x.key ≠ k) : Yy es k = none := by
 induction h with
 | nil => rfl
 | cons k' x n v es ms _ _ ih =>
  have h1 : ¬ keq k' k = true := fun h0 => hn _ List.mem_cons_self (UJ h0)
  rw [Yy, if_neg h1]
  exact ih fun x hx => hn x (List.mem_cons_of_mem _ hx)
theorem II.has {b clock : Nat} {es : List (Value × T × Nat)} (h : II S w b es clock) : Has S w b ⟨.map es clock, [], 0⟩ := ⟨h, rfl, rfl⟩
theorem Jw.at {kd : TypeDesc} {es : List (Value × T × Nat)} {ms : List MapEntry} (h : Jw S w es ms) {k : Value} (hI : MapKept.IsKey kd k) (hnd : (ms.map (·.key)).Nodup) {j : Nat} {e : MapEntry} (hj : ms[j]? = some e) (he : e.key = k) : ∃ x, Yy es k = some x ∧ Rel S w x e.val := by
 induction h generalizing j with
 | nil => simp at hj
 | cons k' x n v es ms h1 hs ih =>
  cases j with
  | zero => simp at hj; subst hj; exact ⟨x, by rw [Yy, if_pos (show keq k' k = true by rw [show k' = k from he]; exact WO hI)], h1⟩
  | succ j =>
   simp at hj hnd
   have hne : ¬ keq k' k = true := fun e0 => hnd.1 e (List.mem_of_getElem? hj) (by rw [he, UJ e0])
   obtain ⟨y, h2, h3⟩ := ih hnd.2 hj
   exact ⟨y, by rw [Yy, if_neg hne, h2], h3⟩
theorem Jw.set {kd : TypeDesc} {es : List (Value × T × Nat)} {ms : List MapEntry} (h : Jw S w es ms) {k : Value} (hI : MapKept.IsKey kd k) (hnd : (ms.map (·.key)).Nodup) {j : Nat} {e : MapEntry} {y : T} {v : Value} (hj : ms[j]? = some e) (he : e.key = k) (hv : Rel S w y v) : Jw S w (WH es k y) (ms.modify j fun e => { e with key := k, val := v }) := by
 induction h generalizing j with
 | nil => simp at hj
 | cons k' x n u es ms h1 hs ih =>
  cases j with
  | zero =>
   simp at hj; subst hj
   have hq : keq k' k = true := by rw [show k' = k from he]; exact WO hI
   rw [WH, if_pos hq]
   exact .cons _ _ _ _ _ _ hv hs
  | succ j =>
   simp at hj hnd
   have hne : ¬ keq k' k = true := fun e0 => hnd.1 e (List.mem_of_getElem? hj) (by rw [he, UJ e0])
   rw [WH, if_neg hne]
   exact .cons _ _ _ _ _ _ h1 (ih hnd.2 hj)
theorem Jw.push {es : List (Value × T × Nat)} {ms : List MapEntry} (h : Jw S w es ms) {k : Value} {y : T} {v : Value} (n : Nat) (hv : Rel S w y v) : Jw S w (es ++ [(k, y, n)]) (ms ++ [⟨k, v, n⟩]) := by
 induction h with
 | nil => exact .cons _ _ _ _ _ _ hv .nil
 | cons k' x n u es ms h1 _ ih => exact .cons _ _ _ _ _ _ h1 ih
end
structure YQ (kd : TypeDesc) (es : List (Value × T × Nat)) : Prop where
 is : ∀ e ∈ es, MapKept.IsKey kd e.1
 nd : (es.map (·.1)).Nodup
theorem YQ.nil (kd : TypeDesc) : YQ kd [] := ⟨by simp, by simp⟩
theorem Ma (es : List (Value × T × Nat)) (k : Value) (x : T) : (WH es k x).map (·.1) = es.map (·.1) := by
 induction es with
 | nil => rfl
 | cons e es ih =>
  rw [WH]
  split
  ·rename_i h; rw [List.map_cons, List.map_cons, UJ h]
  ·rw [List.map_cons, List.map_cons, ih]
theorem YQ.set {kd : TypeDesc} {es : List (Value × T × Nat)} (h : YQ kd es) (k : Value) (x : T) : YQ kd (WH es k x) := by
 refine ⟨fun e he => ?_, by rw [Ma]; exact h.nd⟩
 have : e.1 ∈ es.map (·.1) := by rw [← Ma es k x]; exact List.mem_map.2 ⟨e, he, rfl⟩
 obtain ⟨e', h1, h2⟩ := List.mem_map.1 this
 rw [← h2]; exact h.is e' h1
theorem RT {kd : TypeDesc} {es : List (Value × T × Nat)} {k : Value} (hI : MapKept.IsKey kd k) (h : Yy es k = none) : k ∉ es.map (·.1) := by
 induction es with
 | nil => simp
 | cons e es ih =>
  rw [Yy] at h
  split at h
  ·cases h
  ·rename_i hne
   simp only [List.map_cons, List.mem_cons, not_or]
   exact ⟨fun e0 => hne (by rw [← e0]; exact WO hI), ih h⟩
theorem YQ.push {kd : TypeDesc} {es : List (Value × T × Nat)} (h : YQ kd es) {k : Value} (hk : MapKept.IsKey kd k) (hn : Yy es k = none) (x : T) (n : Nat) : YQ kd (es ++ [(k, x, n)]) := by
 refine ⟨fun e he => ?_, ?_⟩
 ·rcases List.mem_append.1 he with he | he
  ·exact h.is e he
  ·rw [List.mem_singleton.1 he]; exact hk
 ·rw [List.map_append]
  refine List.nodup_append.2 ⟨h.nd, by simp, fun a ha b hb e => ?_⟩
  simp at hb
  subst hb e
  exact RT hk hn ha
section
variable {S : Nat → Prop} {P : Program} {w : World} {ty kt et : Nat} {kd : TypeDesc} {z : T}
theorem Wu (hm : B3 P ty kt et kd z) {b clock : Nat} {es : List (Value × T × Nat)} {ms : Array MapEntry} (hb : w.heap[b]? = some (.map ms clock)) (hE : Jw S w es ms.toList) (hK : YQ kd es) {k : Value} (hk : MapKept.IsKey kd k) :
  ∃ v, (Instr.lookup ty (.map (some b)) k false).run P w = .ok v w ∧ Rel S w ((Yy es k).getD z) v := by
 have hkeys := hE.keys
 have hks : ∀ x ∈ ms.toList, MapKept.IsKey kd x.key := fun x hx => by
  have : x.key ∈ es.map (·.1) := by rw [← hkeys]; exact List.mem_map.2 ⟨x, hx, rfl⟩
  obtain ⟨e, h1, h2⟩ := List.mem_map.1 this
  rw [← h2]; exact hK.is e h1
 have hck := MapKept.run_checkKey (w := w) hm.hk hk ms.isEmpty 9999
 rcases MapKept.findNow_spec hk ms.toList 0 hks with ⟨h1, h2⟩ | ⟨j, e, h1, h2, h3⟩
 ·obtain ⟨i, zv, hi, hzz, rfl⟩ := MH hm.hz
  refine ⟨zv, ?_, ?_⟩
  ·have hz : (zeroValue et).run P w = .ok zv w := by simp [zeroValue, typeInfo, hi, hzz]
   simp only [Instr.lookup, Sem.run_bind, run_underlying hm.h, Result.andThen_ok, MapKept.run_getObj_map hb, Sem.run_pure, hck, MapKept.run_findKey hm.hk h1, hz]
   simp
  ·rw [hE.none h2]; exact Rel.ofVal zv
 ·obtain ⟨x, h4, h5⟩ := hE.at hk (by rw [hkeys]; exact hK.nd) h2 h3
  refine ⟨e.val, ?_, by rw [h4]; exact h5⟩
  simp only [Instr.lookup, Sem.run_bind, run_underlying hm.h, Result.andThen_ok, MapKept.run_getObj_map hb, Sem.run_pure, hck, MapKept.run_findKey hm.hk h1]
  simp
end
section
variable {K : Ctx} {P : Program} {t : Env} {H : Qd} {N : Env → Qd → Prop} {ops : Array Oper} {i : Nat} {l : List Oper} {dst : Option Tmp} {ty kt et tp : TypeId} {pos : String} {aft : Array Edge} {g : Option (Nat × Bool)} {x y u : Operand} {kd : TypeDesc} {z d : T} {kt0 : Tmp} {S : Nat → Prop} {w : World}
theorem R1.turn {a : Act} (h : R1 K t H a w S) {i b : Nat} {k k' : Blk} {w' : World} (hi : H[i]? = some (b, k))
  (hw1 : w'.os = w.os) (hw2 : w'.tape = w.tape) (hw3 : w'.output = w.output) (hsz : w'.heap.size = w.heap.size) (hoth : ∀ c, ¬ c = b → w'.heap[c]? = w.heap[c]?) (hk : Has S w' b k') :
  R1 K t (H.set i (b, k')) a w' S := by
 have hbk : b ∈ keys H := List.mem_map.2 ⟨_, List.mem_of_getElem? hi, rfl⟩
 have hnS : ¬ S b := h.own.apart b hbk
 have hm : ∀ c, S c → S c ∧ w'.heap[c]? = w.heap[c]? := fun c hc => ⟨hc, hoth c (fun e => hnS (e ▸ hc))⟩
 have hkeys := Ej (k' := k') hi
 have hst : QW [b] S w S w' := ⟨hw1, hw2, hw3, by omega, fun c _ hn => hoth c (by simpa using hn), fun _ h => h, fun _ h => .inl h, fun c hc => by have := h.wf c hc; omega⟩
 refine ⟨h.size, h.defers.step hm (hst.objs fun c hc => by simp at hc; subst hc; exact (h.own.at hi).isMem) hst.size, h.step.trans hst (fun c hc => by simp at hc; subst hc; exact h.mine c hbk), ⟨?_, ?_, ?_⟩, by rw [hkeys]; exact h.mine, h.env.mono hm⟩
 ·rw [hkeys]; exact h.own.nodup
 ·rw [hkeys]; exact h.own.apart
 ·intro p hp
  obtain ⟨j, hj⟩ := List.mem_iff_getElem?.1 hp
  rw [List.getElem?_set] at hj
  by_cases hij : i = j
  ·subst hij
   rw [if_pos rfl, if_pos (List.getElem?_eq_some_iff.1 hi).1] at hj
   cases hj
   exact hk
  ·rw [if_neg hij] at hj
   have hpm : p ∈ H := List.mem_of_getElem? hj
   have hne : ¬ p.1 = b := by
    intro e
    have hnd := h.own.nodup
    have h1 : (keys H)[i]? = some b := by simp [keys, hi]
    have h2 : (keys H)[j]? = some b := by simp [keys, hj, e]
    have h3 := (List.getElem?_eq_some_iff.1 h1)
    have h4 := (List.getElem?_eq_some_iff.1 h2)
    exact hij ((List.getElem_inj hnd).1 (h3.2.trans h4.2.symm))
   exact (h.own.has p hpm).mono (hoth _ hne) hm
theorem PA {b clock : Nat} {es : List (Value × T × Nat)} {k : Value} [hm : B3 P ty kt et kd z] (hK : YQ kd es) (hx : t.ev x = .v (.map (some b)) := by exact zl) (hy : t.ev y = .v k := by exact zl) (hi : (b, (⟨.map es clock, [], 0⟩ : Blk)) ∈ H := by exact zm) (hI : MapKept.IsKey kd k := by rfl) :
  POp P t H ⟨dst, .lookup ty x y false, tp, pos, aft, g⟩ ((Yy es k).getD z) :=
 POp.still fun S w a _ ho hr => by
  have h1 := hr x (by simp [Op.operands]); rw [hx] at h1
  have h2 := hr y (by simp [Op.operands]); rw [hy] at h2
  obtain ⟨⟨ms, hb, hE⟩, _, _⟩ := ho.has _ hi
  obtain ⟨v, hrun, hrel⟩ := Wu hm hb hE hK hI
  exact ⟨v, by simp [execOp, h1.v_eq, h2.v_eq, hrun], hrel⟩
theorem Ik {kd : Tmp} (hd : Nat.blt kd K.n = true) (h : ∀ b, (∀ c ∈ keys H, ¬ c = b) → N ((kd, .v (.map (some b))) :: t) ((b, ⟨.map [] 0, [], 0⟩) :: H)) : EOp K t H ⟨some kd, .makeMap ty none, tp, pos, aft, g⟩ N := by
 refine EOp.of_w (fun c e => by cases e) ?_
 intro a w ⟨S, hr⟩ Kc Q hk
 have hrun : (execOp a.eval ⟨some kd, .makeMap ty none, tp, pos, aft, g⟩).run K.P w = .ok (.value (.map (some w.heap.size))) (w.alloc (.map #[] 0)) := by
  simp [execOp, Instr.makeMap]
 unfold Oper.wp
 rw [hrun]
 exact hk _ _ _ _ (h w.heap.size (YO hr)) ⟨S, hr.fresh0 (dst := some kd) (show Has S _ _ ⟨.map [] 0, [], 0⟩ from ⟨⟨#[], Zb w _, .nil⟩, rfl, rfl⟩) hd (.v _)⟩
theorem GS {b clock : Nat} {es : List (Value × T × Nat)} {k : Value} {kd : TypeDesc} {z d : T} (i : Nat) (hi : H[i]? = some (b, ⟨.map es clock, [], 0⟩)) [hm : B3 K.P ty kt et kd z] (hK : YQ kd es) (hI : MapKept.IsKey kd k) (hx : t.ev x = .v (.map (some b))) (hy : t.ev y = .v k) (hu : t.ev u = d)
  (h : N t (H.set i (b, ⟨D8 es clock k d, [], 0⟩))) : EOp K t H ⟨none, .mapUpdate ty x y u, tp, pos, aft, g⟩ N := by
 refine EOp.of_w (fun c e => by cases e) ?_
 intro a w ⟨S, hr⟩ Kc Q hkc
 have h1 := hr.env.ev x; rw [hx] at h1
 have h2 := hr.env.ev y; rw [hy] at h2
 have h3 := hr.env.ev u; rw [hu] at h3
 obtain ⟨⟨ms, hb, hE⟩, _, _⟩ := hr.own.at hi
 have hbk : b ∈ keys H := List.mem_map.2 ⟨_, List.mem_of_getElem? hi, rfl⟩
 have hnS : ¬ S b := hr.own.apart b hbk
 have hkeys := hE.keys
 have hks : ∀ x ∈ ms.toList, MapKept.IsKey kd x.key := fun x hx => by
  have : x.key ∈ es.map (·.1) := by rw [← hkeys]; exact List.mem_map.2 ⟨x, hx, rfl⟩
  obtain ⟨e, h1, h2⟩ := List.mem_map.1 this
  rw [← h2]; exact hK.is e h1
 have hck := MapKept.run_checkKey (w := w) hm.hk hI false 9999
 have hne : ∀ (o' : Obj) (c : Nat), ¬ c = b → (w.heap.setIfInBounds b o')[c]? = w.heap[c]? := fun o' c hc => (MapKept.heap_set (o' := o') hb).2 c hc
 have hmo : ∀ (o' : Obj) c, S c → S c ∧ (w.heap.setIfInBounds b o')[c]? = w.heap[c]? := fun o' c hc => ⟨hc, hne o' c fun e => hnS (e ▸ hc)⟩
 unfold Oper.wp
 rcases MapKept.findNow_spec hI ms.toList 0 hks with ⟨f1, f2⟩ | ⟨j, e, f1, f2, f3⟩
 ·have hrun : (execOp a.eval ⟨none, .mapUpdate ty x y u, tp, pos, aft, g⟩).run K.P w = .ok .skip { w with heap := w.heap.setIfInBounds b (.map (ms.push ⟨k, a.eval u, clock⟩) (clock + 1)) } := by
   simp [execOp, h1.v_eq, h2.v_eq, Instr.mapUpdate, run_underlying hm.h, MapKept.run_getObj_map hb, hck, MapKept.run_findKey hm.hk f1, MapKept.run_setObj_map _ hb]
  rw [hrun]
  have hg := hE.none f2
  have he : D8 es clock k d = .map (es ++ [(k, d, clock)]) (clock + 1) := by unfold D8; rw [hg]
  rw [he] at h
  refine hkc _ _ _ _ h ⟨S, hr.turn hi rfl rfl rfl (by simp) (hne _) (II.has ⟨_, (MapKept.heap_set hb).1, ?_⟩)⟩
  rw [Array.toList_push]
  exact (hE.push clock h3).mono (w' := { w with heap := _ }) (hmo _)
 ·have hj : ms[0 + j]? = some e := by rw [Nat.zero_add]; simpa using f2
  have hrun : (execOp a.eval ⟨none, .mapUpdate ty x y u, tp, pos, aft, g⟩).run K.P w = .ok .skip { w with heap := w.heap.setIfInBounds b (.map (ms.modify (0 + j) fun e => { e with key := k, val := a.eval u }) clock) } := by
   simp only [execOp, h1.v_eq, h2.v_eq, Instr.mapUpdate, Sem.run_bind, run_underlying hm.h, Result.andThen_ok, MapKept.run_getObj_map hb, hck, MapKept.run_findKey hm.hk f1, hj, Option.map_some, Option.getD_some, f3, MapKept.run_keyThatStays hI, MapKept.run_setObj_map _ hb]
   simp
  rw [hrun]
  obtain ⟨x0, hg, _⟩ := hE.at hI (by rw [hkeys]; exact hK.nd) f2 f3
  have he : D8 es clock k d = .map (WH es k d) clock := by unfold D8; rw [hg]
  rw [he] at h
  refine hkc _ _ _ _ h ⟨S, hr.turn hi rfl rfl rfl (by simp) (hne _) (II.has ⟨_, (MapKept.heap_set hb).1, ?_⟩)⟩
  have := hE.set hI (by rw [hkeys]; exact hK.nd) f2 f3 h3
  rw [Nat.zero_add, Array.toList_modify]
  exact this.mono (w' := { w with heap := _ }) (hmo _)
theorem Pg {kd : Tmp} (h : ∀ b, (∀ c ∈ keys H, ¬ c = b) → Qf K ops (i + 1) l ((kd, .v (.map (some b))) :: t) ((b, ⟨.map [] 0, [], 0⟩) :: H) N) (hd : Nat.blt kd K.n = true := by rfl) : Qf K ops i (⟨some kd, .makeMap ty none, tp, pos, aft, none⟩ :: l) t H N := YA (Ik hd h)
theorem PH {H' : Qd} {b clock : Nat} {es : List (Value × T × Nat)} {k : Value} [hm : B3 K.P ty kt et kd z] (hK : YQ kd es) (h : Qf K ops (i + 1) l t H' N) (hx : t.ev x = .v (.map (some b)) := by exact zl) (hy : t.ev y = .v k := by exact zl) (hu : t.ev u = d := by exact zl) (hi : Jv H (b, ⟨.map es clock, [], 0⟩) (b, ⟨D8 es clock k d, [], 0⟩) H' := by exact zr) (hI : MapKept.IsKey kd k := by rfl) :
  Qf K ops i (⟨none, .mapUpdate ty x y u, tp, pos, aft, none⟩ :: l) t H N := by
 obtain ⟨j, hj, rfl⟩ := hi
 exact YA (GS j hj hK hI hx hy hu h)
theorem Ry {fs : Array Field} {f : Field} {r : List Field} {e : TypeId} {a : Addr} {us vs : List Value} (hu : P.underlying ty = some (.struct fs)) (hh : P.stoodInHeld ty = false) (hfs : fs.toList = f :: r) (hn : f.name ≠ "_") (ho : f.offset = 0) (hp : P.underlying f.type = some (.pointer e)) :
  (Op.equal ty (.agg (.pointer (some a) :: us).toArray) (.agg (.pointer none :: vs).toArray)).run P w = .ok false w := by
 have hfo : P.fieldsOf ty = fs := by simp [Program.fieldsOf, hu]
 have hl : QP P f.type = true := by simp [QP, hp]
 have p1 := Vy (P := P) (w := w) (.pointer (some a) :: us).toArray f.offset (.pointer (some a)) hl (by simp [ho])
 have p2 := Vy (P := P) (w := w) (.pointer none :: vs).toArray f.offset (.pointer none) hl (by simp [ho])
 show (Op.equalIn (9999 + 1) ty _ _).run P w = _
 rw [run_equalIn_struct w 9999 ty _ _ (by rw [hfo]; exact hu) hh, hfo, hfs]
 have h3 : (Op.equalIn 9999 f.type (.pointer (some a)) (.pointer none)).run P w = .ok false w := by
  show (Op.equalIn (9998 + 1) f.type (.pointer (some a)) (.pointer none)).run P w = _
  generalize 9998 = d
  simp [Op.equalIn, run_underlying hp]
 generalize 9999 = d at h3 ⊢
 simp [Op.eqFields, hn, p1, p2, h3]
theorem NM {ty' : TypeId} {xs ys : List T} {a : Addr} {fs : Array Field} {f : Field} {r : List Field} {e : TypeId} (hg : P.eqGuardType P.depth ty = false) (hx : t.ev x = .agg (.v (.pointer (some a)) :: xs) := by exact zl) (hy : t.ev y = .agg (.v (.pointer none) :: ys) := by exact zl)
  (hu : P.underlying ty = some (.struct fs) := by rfl) (hh : P.stoodInHeld ty = false := by kernel_rfl) (hfs : fs.toList = f :: r := by rfl) (hn : f.name ≠ "_" := by decide) (ho : f.offset = 0 := by rfl) (hp : P.underlying f.type = some (.pointer e) := by rfl) :
  POp P t H ⟨dst, .binOp .neq ty x y ty', tp, pos, aft, g⟩ (.v (.bool (decide True))) :=
 POp.still fun S w a _ _ hr => by
  have h1 := hr x (by simp [Op.operands]); rw [hx] at h1
  have h2 := hr y (by simp [Op.operands]); rw [hy] at h2
  obtain ⟨us, e1, h1⟩ := h1.agg_inv
  obtain ⟨vs, e2, h2⟩ := h2.agg_inv
  cases h1 with
  | cons _ u1 _ us h1 h1' =>
   cases h2 with
   | cons _ v1 _ vs h2 h2' =>
    have f1 := h1.v_eq
    have f2 := h2.v_eq
    subst f1 f2
    refine ⟨_, ?_, .v _⟩
    simp only [execOp, e1, e2]
    simp [eqGuard, binOp, Ry (w := w) (us := us) (vs := vs) hu hh hfs hn ho hp, hg]
end
end Go.Cap
