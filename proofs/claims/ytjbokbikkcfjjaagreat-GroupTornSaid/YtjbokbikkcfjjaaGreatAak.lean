/-
  Maps of one's own: made, looked up, written to.
-/
import Derived.Test.YtjbokbikkcfjjaaGreatAaj
import Derived.MapKept
import Derived.WideKeyRuns
import Derived.Maps.RangeRun
set_option maxRecDepth 16000
set_option maxHeartbeats 8000000
set_option linter.all false
namespace Go.Cap
def IsK : TypeDesc → Value → Prop
 | .struct _, k => ∃ a b, k = .agg #[.int .i64 a, .int .i64 b]
 | d, k => MapKept.IsKey d k
theorem Dp {fs : Array Field} {a b : Int} : IsK (.struct fs) (.agg #[.int .i64 a, .int .i64 b]) := ⟨_, _, rfl⟩
def Rr (d : T) (k : Value) : Prop := ∀ (S : Nat → Prop) (w : World) (v : Value), Rel S w d v → v = k
theorem Rr.v {k : Value} : Rr (.v k) k := fun _ _ _ h => h.v_eq
class DZ (P : Program) (ty : Nat) (kt et : outParam Nat) (kd : outParam TypeDesc) (z : outParam T) : Prop where
 h : P.underlying ty = some (.map kt et)
 hk : P.underlying kt = some kd
 hz : W2 P et = some z
 hw : ∀ fs, kd = .struct fs → Ya P 2 kt = some [.int .i64, .int .i64] ∧ X3 P kt = some 2 ∧ ∃ f g : Field, fs = #[f, g] ∧ f.name ≠ "_" ∧ g.name ≠ "_" ∧ f.offset = 0 ∧ g.offset = 1 ∧ P.underlying f.type = some (.int .i64) ∧ P.underlying g.type = some (.int .i64)
def AI : Value → Value → Bool
 | .int k a, .int k' b => decide (k = k') && decide (a = b)
 | _, _ => false
def Iv : List Value → List Value → Bool
 | [], [] => true
 | x :: xs, y :: ys => AI x y && Iv xs ys
 | _, _ => false
theorem Gx : ∀ {a b : List Value}, Iv a b = true → a = b
 | [], [], _ => rfl
 | x :: xs, y :: ys, h => by
  simp only [Iv, Bool.and_eq_true] at h
  rw [Gx h.2]
  cases x <;> cases y <;> simp_all [AI]
 | [], _ :: _, h => by cases h
 | _ :: _, [], h => by cases h
def keq : Value → Value → Bool
 | .agg a, .agg b => Iv a.toList b.toList
 | .int k a, .int k' b => decide (k = k') && decide (a = b)
 | .bool a, .bool b => a == b
 | .string a, .string b => decide (a.data = b.data)
 | _, _ => false
theorem Ud {a b : Value} (h : keq a b = true) : a = b := by
 cases a <;> cases b <;> simp_all [keq]
 ·rename_i x y
  obtain ⟨x⟩ := x
  obtain ⟨y⟩ := y
  simp_all
 ·rename_i x y
  exact Array.toList_inj.1 (Gx h)
theorem Wa {kd : TypeDesc} {k : Value} (h : IsK kd k) : keq k k = true := by
 cases kd <;> first | (obtain ⟨a, b, rfl⟩ := h; simp [keq, Iv, AI]) | (cases k <;> simp_all [keq, IsK, MapKept.IsKey])
def Yc : List (Value × T × Nat) → Value → Option T
 | [], _ => none
 | e :: es, k => if keq e.1 k then some e.2.1 else Yc es k
def V5 : List (Value × T × Nat) → Value → T → List (Value × T × Nat)
 | [], _, _ => []
 | e :: es, k, x => if keq e.1 k then (k, x, e.2.2) :: es else e :: V5 es k x
def Db (es : List (Value × T × Nat)) (clock : Nat) (k : Value) (x : T) : BTy :=
 match Yc es k with
 | some _ => .map (V5 es k x) clock
 | none => .map (es ++ [(k, x, clock)]) (clock + 1)
section
variable {S : Nat → Prop} {w : World}
theorem Ja.keys {es : List (Value × T × Nat)} {ms : List MapEntry} (h : Ja S w es ms) : ms.map (·.key) = es.map (·.1) := by
 induction h with
 | nil => rfl
 | cons k x n v es ms _ _ ih => simp [ih]
theorem Ja.none {es : List (Value × T × Nat)} {ms : List MapEntry} (h : Ja S w es ms) {k : Value} (hn : ∀ x ∈ ms, x.key ≠ k) : Yc es k = none := by
 induction h with
 | nil => rfl
 | cons k' x n v es ms _ _ ih =>
  have h1 : ¬ keq k' k = true := fun h0 => hn _ List.mem_cons_self (Ud h0)
  rw [Yc, if_neg h1]
  exact ih fun x hx => hn x (List.mem_cons_of_mem _ hx)
theorem CE.has {b clock : Nat} {es : List (Value × T × Nat)} (h : CE S w b es clock) : Has S w b ⟨.map es clock, [], 0⟩ := ⟨h, rfl, rfl⟩
theorem Ja.at {kd : TypeDesc} {es : List (Value × T × Nat)} {ms : List MapEntry} (h : Ja S w es ms) {k : Value} (hI : IsK kd k) (hnd : (ms.map (·.key)).Nodup) {j : Nat} {e : MapEntry} (hj : ms[j]? = some e) (he : e.key = k) : ∃ x, Yc es k = some x ∧ Rel S w x e.val := by
 induction h generalizing j with
 | nil => simp at hj
 | cons k' x n v es ms h1 hs ih =>
  cases j with
  | zero => simp at hj; subst hj; exact ⟨x, by rw [Yc, if_pos (show keq k' k = true by rw [show k' = k from he]; exact Wa hI)], h1⟩
  | succ j =>
   simp at hj hnd
   have hne : ¬ keq k' k = true := fun e0 => hnd.1 e (List.mem_of_getElem? hj) (by rw [he, Ud e0])
   obtain ⟨y, h2, h3⟩ := ih hnd.2 hj
   exact ⟨y, by rw [Yc, if_neg hne, h2], h3⟩
theorem Ja.set {kd : TypeDesc} {es : List (Value × T × Nat)} {ms : List MapEntry} (h : Ja S w es ms) {k : Value} (hI : IsK kd k) (hnd : (ms.map (·.key)).Nodup) {j : Nat} {e : MapEntry} {y : T} {v : Value} (hj : ms[j]? = some e) (he : e.key = k) (hv : Rel S w y v) : Ja S w (V5 es k y) (ms.modify j fun e => { e with key := k, val := v }) := by
 induction h generalizing j with
 | nil => simp at hj
 | cons k' x n u es ms h1 hs ih =>
  cases j with
  | zero =>
   simp at hj; subst hj
   have hq : keq k' k = true := by rw [show k' = k from he]; exact Wa hI
   rw [V5, if_pos hq]
   exact .cons _ _ _ _ _ _ hv hs
  | succ j =>
   simp at hj hnd
   have hne : ¬ keq k' k = true := fun e0 => hnd.1 e (List.mem_of_getElem? hj) (by rw [he, Ud e0])
   rw [V5, if_neg hne]
   exact .cons _ _ _ _ _ _ h1 (ih hnd.2 hj)
theorem Ja.push {es : List (Value × T × Nat)} {ms : List MapEntry} (h : Ja S w es ms) {k : Value} {y : T} {v : Value} (n : Nat) (hv : Rel S w y v) : Ja S w (es ++ [(k, y, n)]) (ms ++ [⟨k, v, n⟩]) := by
 induction h with
 | nil => exact .cons _ _ _ _ _ _ hv .nil
 | cons k' x n u es ms h1 _ ih => exact .cons _ _ _ _ _ _ h1 ih
end
structure Yj (kd : TypeDesc) (es : List (Value × T × Nat)) : Prop where
 is : ∀ e ∈ es, IsK kd e.1
 nd : (es.map (·.1)).Nodup
theorem Yj.nil (kd : TypeDesc) : Yj kd [] := ⟨by simp, by simp⟩
theorem Lm (es : List (Value × T × Nat)) (k : Value) (x : T) : (V5 es k x).map (·.1) = es.map (·.1) := by
 induction es with
 | nil => rfl
 | cons e es ih =>
  rw [V5]
  split
  ·rename_i h; rw [List.map_cons, List.map_cons, Ud h]
  ·rw [List.map_cons, List.map_cons, ih]
theorem Yj.set {kd : TypeDesc} {es : List (Value × T × Nat)} (h : Yj kd es) (k : Value) (x : T) : Yj kd (V5 es k x) := by
 refine ⟨fun e he => ?_, by rw [Lm]; exact h.nd⟩
 have : e.1 ∈ es.map (·.1) := by rw [← Lm es k x]; exact List.mem_map.2 ⟨e, he, rfl⟩
 obtain ⟨e', h1, h2⟩ := List.mem_map.1 this
 rw [← h2]; exact h.is e' h1
theorem OF {kd : TypeDesc} {es : List (Value × T × Nat)} {k : Value} (hI : IsK kd k) (h : Yc es k = none) : k ∉ es.map (·.1) := by
 induction es with
 | nil => simp
 | cons e es ih =>
  rw [Yc] at h
  split at h
  ·cases h
  ·rename_i hne
   simp only [List.map_cons, List.mem_cons, not_or]
   exact ⟨fun e0 => hne (by rw [← e0]; exact Wa hI), ih h⟩
theorem Yj.push {kd : TypeDesc} {es : List (Value × T × Nat)} (h : Yj kd es) {k : Value} (hk : IsK kd k) (hn : Yc es k = none) (x : T) (n : Nat) : Yj kd (es ++ [(k, x, n)]) := by
 refine ⟨fun e he => ?_, ?_⟩
 ·rcases List.mem_append.1 he with he | he
  ·exact h.is e he
  ·rw [List.mem_singleton.1 he]; exact hk
 ·rw [List.map_append]
  refine List.nodup_append.2 ⟨h.nd, by simp, fun a ha b hb e => ?_⟩
  simp at hb
  subst hb e
  exact OF hk hn ha
section
variable {S : Nat → Prop} {P : Program} {w : World} {ty kt et : Nat} {kd : TypeDesc} {z : T}
theorem LJ (hm : DZ P ty kt et kd z) {k : Value} (hk : IsK kd k) (em : Bool) : (Instr.checkKey em (9999 + 1) kt k).run P w = .ok () w := by
 by_cases hs : ∃ fs, kd = .struct fs
 ·obtain ⟨fs, rfl⟩ := hs
  obtain ⟨a, b, rfl⟩ := hk
  obtain ⟨_, _, f, g, rfl, n1, n2, o1, o2, u1, u2⟩ := hm.hw _ rfl
  have p1 := X6 (P := P) (w := w) #[.int .i64 a, .int .i64 b] 0 (.int .i64 a) (UG u1) rfl
  have p2 := X6 (P := P) (w := w) #[.int .i64 a, .int .i64 b] 1 (.int .i64 b) (UG u2) rfl
  have c1 : (Instr.checkKey em 9999 f.type (.int .i64 a)).run P w = .ok () w := MapKept.run_checkKey u1 (show MapKept.IsKey (.int .i64) (.int .i64 a) from rfl) em 9998
  have c2 : (Instr.checkKey em 9999 g.type (.int .i64 b)).run P w = .ok () w := MapKept.run_checkKey u2 (show MapKept.IsKey (.int .i64) (.int .i64 b) from rfl) em 9998
  rw [Instr.checkKey]
  simp only [Sem.run_bind, run_underlying hm.hk, Result.andThen_ok]
  rw [← Array.forIn_toList]
  generalize 9999 = n at c1 c2 ⊢
  simp [n1, n2, o1, o2, p1, p2, c1, c2]
 ·refine MapKept.run_checkKey hm.hk ?_ em 9999
  cases kd <;> first | exact hk | exact absurd ⟨_, rfl⟩ hs
theorem DC (hm : DZ P ty kt et kd z) {k : Value} (hk : IsK kd k) (l : List MapEntry) (hl : ∀ x ∈ l, IsK kd x.key) :
  ((Instr.findKey kt k l).run P w = .ok none w ∧ ∀ x ∈ l, x.key ≠ k) ∨ ∃ j e, (Instr.findKey kt k l).run P w = .ok (some (j, e.val)) w ∧ l[j]? = some e ∧ e.key = k := by
 by_cases hs : ∃ fs, kd = .struct fs
 ·obtain ⟨fs, rfl⟩ := hs
  obtain ⟨a, b, rfl⟩ := hk
  obtain ⟨hf, ha, _⟩ := hm.hw _ rfl
  have hw := hm.hk
  rw [run_findKey_eq w (by rw [hw])]
  suffices h : ∀ (l : List MapEntry) (i : Nat), (∀ x ∈ l, ∃ a b, x.key = .agg #[.int .i64 a, .int .i64 b]) →
    ((Instr.findAsking kt (.agg #[.int .i64 a, .int .i64 b]) l i).run P w = .ok none w ∧ ∀ x ∈ l, x.key ≠ .agg #[.int .i64 a, .int .i64 b]) ∨
    ∃ j e, (Instr.findAsking kt (.agg #[.int .i64 a, .int .i64 b]) l i).run P w = .ok (some (i + j, e.val)) w ∧ l[j]? = some e ∧ e.key = .agg #[.int .i64 a, .int .i64 b] by
   rcases h l 0 hl with h | ⟨j, e, h1, h2⟩
   ·exact .inl h
   ·exact .inr ⟨j, e, by rw [h1, Nat.zero_add], h2⟩
  intro l
  induction l with
  | nil => exact fun i _ => .inl ⟨by simp [Instr.findAsking], by simp⟩
  | cons e es ih =>
   intro i hl
   obtain ⟨a', b', he⟩ := hl e (by simp)
   have heq := JE (w := w) (as := [.int .i64 a, .int .i64 b]) (bs' := [.int .i64 a', .int .i64 b']) hf (by rfl) ha (by rfl) (by rfl)
   by_cases hq : ([.int .i64 a, .int .i64 b] : List Value) = [.int .i64 a', .int .i64 b']
   ·refine .inr ⟨0, e, ?_, rfl, by rw [he]; simp at hq; rw [hq.1, hq.2]⟩
    rw [Instr.findAsking, he]
    simp only [Sem.run_bind]
    rw [show (Op.equal kt (.agg #[.int .i64 a, .int .i64 b]) (.agg #[.int .i64 a', .int .i64 b'])).run P w = _ from heq]
    simp [hq]
   ·have hne : e.key ≠ .agg #[.int .i64 a, .int .i64 b] := fun h => hq (by rw [he] at h; simp at h ⊢; exact ⟨h.1.symm, h.2.symm⟩)
    have hstep : (Instr.findAsking kt (.agg #[.int .i64 a, .int .i64 b]) (e :: es) i).run P w = (Instr.findAsking kt (.agg #[.int .i64 a, .int .i64 b]) es (i + 1)).run P w := by
     rw [Instr.findAsking, he]
     simp only [Sem.run_bind]
     rw [show (Op.equal kt (.agg #[.int .i64 a, .int .i64 b]) (.agg #[.int .i64 a', .int .i64 b'])).run P w = _ from heq]
     simp [hq]
    rw [hstep]
    rcases ih (i + 1) (fun x hx => hl x (by simp [hx])) with ⟨h1, h2⟩ | ⟨j, e', h1, h2, h3⟩
    ·exact .inl ⟨h1, fun x hx => by
      rcases List.mem_cons.1 hx with rfl | hx
      ·exact hne
      ·exact h2 x hx⟩
    ·exact .inr ⟨j + 1, e', by rw [h1]; congr 3; omega, h2, h3⟩
 ·have hk' : MapKept.IsKey kd k := by cases kd <;> first | exact hk | exact absurd ⟨_, rfl⟩ hs
  have hl' : ∀ x ∈ l, MapKept.IsKey kd x.key := fun x hx => by have := hl x hx; cases kd <;> first | exact this | exact absurd ⟨_, rfl⟩ hs
  rcases MapKept.findNow_spec hk' l 0 hl' with ⟨h1, h2⟩ | ⟨j, e, h1, h2, h3⟩
  ·exact .inl ⟨MapKept.run_findKey hm.hk h1, h2⟩
  ·rw [Nat.zero_add] at h1; exact .inr ⟨j, e, MapKept.run_findKey hm.hk h1, h2, h3⟩
theorem G8 (kd : TypeDesc) {k : Value} (hk : IsK kd k) : (Instr.keyThatStays k k).run P w = .ok k w := by
 by_cases hs : ∃ fs, kd = .struct fs
 ·obtain ⟨fs, rfl⟩ := hs
  obtain ⟨a, b, rfl⟩ := hk
  have h : Instr.sameBits (9999 + 1) (.agg #[.int .i64 a, .int .i64 b]) (.agg #[.int .i64 a, .int .i64 b]) = true := by
   rw [Instr.sameBits]
   generalize 9999 = n
   simp [Instr.sameBits]
  unfold Instr.keyThatStays
  rw [show Instr.sameBits 10000 _ _ = true from h]
  simp
 ·have hk' : MapKept.IsKey kd k := by cases kd <;> first | exact hk | exact absurd ⟨_, rfl⟩ hs
  exact MapKept.run_keyThatStays hk'
theorem VQ (hm : DZ P ty kt et kd z) {b clock : Nat} {es : List (Value × T × Nat)} {ms : Array MapEntry} (hb : w.heap[b]? = some (.map ms clock)) (hE : Ja S w es ms.toList) (hK : Yj kd es) {k : Value} (hk : IsK kd k) :
  ∃ v, (Instr.lookup ty (.map (some b)) k false).run P w = .ok v w ∧ Rel S w ((Yc es k).getD z) v := by
 have hkeys := hE.keys
 have hks : ∀ x ∈ ms.toList, IsK kd x.key := fun x hx => by
  have : x.key ∈ es.map (·.1) := by rw [← hkeys]; exact List.mem_map.2 ⟨x, hx, rfl⟩
  obtain ⟨e, h1, h2⟩ := List.mem_map.1 this
  rw [← h2]; exact hK.is e h1
 have hck := LJ (w := w) hm hk ms.isEmpty
 rcases DC (w := w) hm hk ms.toList hks with ⟨h1, h2⟩ | ⟨j, e, h1, h2, h3⟩
 ·obtain ⟨i, zv, hi, hzz, rfl⟩ := LN hm.hz
  refine ⟨zv, ?_, ?_⟩
  ·have hz : (zeroValue et).run P w = .ok zv w := by simp [zeroValue, typeInfo, hi, hzz]
   simp only [Instr.lookup, Sem.run_bind, run_underlying hm.h, Result.andThen_ok, MapKept.run_getObj_map hb, Sem.run_pure, hck, h1, hz]
   simp
  ·rw [hE.none h2]; exact Rel.ofVal zv
 ·obtain ⟨x, h4, h5⟩ := hE.at hk (by rw [hkeys]; exact hK.nd) h2 h3
  refine ⟨e.val, ?_, by rw [h4]; exact h5⟩
  simp only [Instr.lookup, Sem.run_bind, run_underlying hm.h, Result.andThen_ok, MapKept.run_getObj_map hb, Sem.run_pure, hck, h1]
  simp
end
section
variable {K : Ctx} {P : Program} {t : Env} {H : Qc} {N : Env → Qc → Prop} {ops : Array Oper} {i : Nat} {l : List Oper} {dst : Option Tmp} {ty kt et tp : TypeId} {pos : String} {aft : Array Edge} {g : Option (Nat × Bool)} {x y u : Operand} {kd : TypeDesc} {z d : T} {kt0 : Tmp} {S : Nat → Prop} {w : World}
theorem R1.turn {a : Act} (h : R1 K t H a w S) {i b : Nat} {k k' : Blk} {w' : World} (hi : H[i]? = some (b, k))
  (hw1 : w'.os = w.os) (hw2 : w'.tape = w.tape) (hw3 : w'.output = w.output) (hsz : w'.heap.size = w.heap.size) (hoth : ∀ c, ¬ c = b → w'.heap[c]? = w.heap[c]?) (hk : Has S w' b k') :
  R1 K t (H.set i (b, k')) a w' S := by
 have hbk : b ∈ keys H := List.mem_map.2 ⟨_, List.mem_of_getElem? hi, rfl⟩
 have hnS : ¬ S b := h.own.apart b hbk
 have hm : ∀ c, S c → S c ∧ w'.heap[c]? = w.heap[c]? := fun c hc => ⟨hc, hoth c (fun e => hnS (e ▸ hc))⟩
 have hkeys := Dl (k' := k') hi
 have hst : QN [b] S w S w' := ⟨hw1, hw2, hw3, by omega, fun c _ hn => hoth c (by simpa using hn), fun _ h => h, fun _ h => .inl h, fun c hc => by have := h.wf c hc; omega⟩
 refine ⟨h.size, h.defers.step hm (hst.objs fun c hc => by simp at hc; subst hc; exact (h.own.at hi).isMem) hst.size, h.step.trans hst (fun c hc => by simp at hc; subst hc; exact h.mine c hbk), ⟨?_, ?_, ?_⟩, by rw [hkeys]; exact h.mine, h.env.mono hm⟩
 ·rw [hkeys]; exact h.own.nodup
 ·rw [hkeys]; exact h.own.apart
 ·intro p hp
  obtain ⟨j, hj⟩ := List.mem_iff_getElem?.1 hp
  rw [List.getElem?_set] at hj
  by_cases hij : i = j
  ·subst hij
   rw [if_pos rfl, if_pos (List.getElem?_eq_some_iff.1 hi).1] at hj
   cases hj
   exact hk
  ·rw [if_neg hij] at hj
   have hpm : p ∈ H := List.mem_of_getElem? hj
   have hne : ¬ p.1 = b := by
    intro e
    have hnd := h.own.nodup
    have h1 : (keys H)[i]? = some b := by simp [keys, hi]
    have h2 : (keys H)[j]? = some b := by simp [keys, hj, e]
    have h3 := (List.getElem?_eq_some_iff.1 h1)
    have h4 := (List.getElem?_eq_some_iff.1 h2)
    exact hij ((List.getElem_inj hnd).1 (h3.2.trans h4.2.symm))
   exact (h.own.has p hpm).mono (hoth _ hne) hm
theorem At {b clock : Nat} {es : List (Value × T × Nat)} {k : Value} [hm : DZ P ty kt et kd z] (hK : Yj kd es) (hx : t.ev x = .v (.map (some b))) (hy : Rr (t.ev y) k) (hi : (b, (⟨.map es clock, [], 0⟩ : Blk)) ∈ H) (hI : IsK kd k) :
  POp P t H ⟨dst, .lookup ty x y false, tp, pos, aft, g⟩ ((Yc es k).getD z) :=
 POp.still fun S w a _ ho hr => by
  have h1 := hr x (by simp [Op.operands]); rw [hx] at h1
  have h2 := hy _ _ _ (hr y (by simp [Op.operands]))
  obtain ⟨⟨ms, hb, hE⟩, _, _⟩ := ho.has _ hi
  obtain ⟨v, hrun, hrel⟩ := VQ hm hb hE hK hI
  exact ⟨v, by simp [execOp, h1.v_eq, h2, hrun], hrel⟩
theorem TS {b clock : Nat} {es : List (Value × T × Nat)} {k : Value} [hm : DZ P ty kt et kd z] (hK : Yj kd es) (hx : t.ev x = .v (.map (some b)) := by exact zl) (hy : t.ev y = .v k := by exact zl) (hi : (b, (⟨.map es clock, [], 0⟩ : Blk)) ∈ H := by exact zm) (hI : IsK kd k := by first | exact rfl | exact Dp) :
  POp P t H ⟨dst, .lookup ty x y false, tp, pos, aft, g⟩ ((Yc es k).getD z) := At hK hx (hy ▸ Rr.v) hi hI
theorem O5 {kd : Tmp} (hd : Nat.blt kd K.n = true) (h : ∀ b, (∀ c ∈ keys H, ¬ c = b) → N ((kd, .v (.map (some b))) :: t) ((b, ⟨.map [] 0, [], 0⟩) :: H)) : EOp K t H ⟨some kd, .makeMap ty none, tp, pos, aft, g⟩ N := by
 refine EOp.of_w (fun c e => by cases e) ?_
 intro a w ⟨S, hr⟩ Kc Q hk
 have hrun : (execOp a.eval ⟨some kd, .makeMap ty none, tp, pos, aft, g⟩).run K.P w = .ok (.value (.map (some w.heap.size))) (w.alloc (.map #[] 0)) := by
  simp [execOp, Instr.makeMap]
 unfold Oper.wp
 rw [hrun]
 exact hk _ _ _ _ (h w.heap.size (Yw hr)) ⟨S, hr.fresh0 (dst := some kd) (show Has S _ _ ⟨.map [] 0, [], 0⟩ from ⟨⟨#[], YZ w _, .nil⟩, rfl, rfl⟩) hd (.v _)⟩
theorem EL {b clock : Nat} {es : List (Value × T × Nat)} {k : Value} {kd : TypeDesc} {z d : T} (i : Nat) (hi : H[i]? = some (b, ⟨.map es clock, [], 0⟩)) [hm : DZ K.P ty kt et kd z] (hK : Yj kd es) (hI : IsK kd k) (hx : t.ev x = .v (.map (some b))) (hy : Rr (t.ev y) k) (hu : t.ev u = d)
  (h : N t (H.set i (b, ⟨Db es clock k d, [], 0⟩))) : EOp K t H ⟨none, .mapUpdate ty x y u, tp, pos, aft, g⟩ N := by
 refine EOp.of_w (fun c e => by cases e) ?_
 intro a w ⟨S, hr⟩ Kc Q hkc
 have h1 := hr.env.ev x; rw [hx] at h1
 have h2 := hy _ _ _ (hr.env.ev y)
 have h3 := hr.env.ev u; rw [hu] at h3
 obtain ⟨⟨ms, hb, hE⟩, _, _⟩ := hr.own.at hi
 have hbk : b ∈ keys H := List.mem_map.2 ⟨_, List.mem_of_getElem? hi, rfl⟩
 have hnS : ¬ S b := hr.own.apart b hbk
 have hkeys := hE.keys
 have hks : ∀ x ∈ ms.toList, IsK kd x.key := fun x hx => by
  have : x.key ∈ es.map (·.1) := by rw [← hkeys]; exact List.mem_map.2 ⟨x, hx, rfl⟩
  obtain ⟨e, h1, h2⟩ := List.mem_map.1 this
  rw [← h2]; exact hK.is e h1
 have hck := LJ (w := w) hm hI false
 have hne : ∀ (o' : Obj) (c : Nat), ¬ c = b → (w.heap.setIfInBounds b o')[c]? = w.heap[c]? := fun o' c hc => (MapKept.heap_set (o' := o') hb).2 c hc
 have hmo : ∀ (o' : Obj) c, S c → S c ∧ (w.heap.setIfInBounds b o')[c]? = w.heap[c]? := fun o' c hc => ⟨hc, hne o' c fun e => hnS (e ▸ hc)⟩
 unfold Oper.wp
 rcases DC (w := w) hm hI ms.toList hks with ⟨f1, f2⟩ | ⟨j, e, f1, f2, f3⟩
 ·have hrun : (execOp a.eval ⟨none, .mapUpdate ty x y u, tp, pos, aft, g⟩).run K.P w = .ok .skip { w with heap := w.heap.setIfInBounds b (.map (ms.push ⟨k, a.eval u, clock⟩) (clock + 1)) } := by
   simp [execOp, h1.v_eq, h2, Instr.mapUpdate, run_underlying hm.h, MapKept.run_getObj_map hb, hck, f1, MapKept.run_setObj_map _ hb]
  rw [hrun]
  have hg := hE.none f2
  have he : Db es clock k d = .map (es ++ [(k, d, clock)]) (clock + 1) := by unfold Db; rw [hg]
  rw [he] at h
  refine hkc _ _ _ _ h ⟨S, hr.turn hi rfl rfl rfl (by simp) (hne _) (CE.has ⟨_, (MapKept.heap_set hb).1, ?_⟩)⟩
  rw [Array.toList_push]
  exact (hE.push clock h3).mono (w' := { w with heap := _ }) (hmo _)
 ·have hj : ms[j]? = some e := by simpa using f2
  have hrun : (execOp a.eval ⟨none, .mapUpdate ty x y u, tp, pos, aft, g⟩).run K.P w = .ok .skip { w with heap := w.heap.setIfInBounds b (.map (ms.modify j fun e => { e with key := k, val := a.eval u }) clock) } := by
   simp only [execOp, h1.v_eq, h2, Instr.mapUpdate, Sem.run_bind, run_underlying hm.h, Result.andThen_ok, MapKept.run_getObj_map hb, hck, f1, hj, Option.map_some, Option.getD_some, f3, G8 kd hI, MapKept.run_setObj_map _ hb]
   simp
  rw [hrun]
  obtain ⟨x0, hg, _⟩ := hE.at hI (by rw [hkeys]; exact hK.nd) f2 f3
  have he : Db es clock k d = .map (V5 es k d) clock := by unfold Db; rw [hg]
  rw [he] at h
  refine hkc _ _ _ _ h ⟨S, hr.turn hi rfl rfl rfl (by simp) (hne _) (CE.has ⟨_, (MapKept.heap_set hb).1, ?_⟩)⟩
  have := hE.set hI (by rw [hkeys]; exact hK.nd) f2 f3 h3
  rw [Array.toList_modify]
  exact this.mono (w' := { w with heap := _ }) (hmo _)
theorem TD {kd : Tmp} (h : ∀ b, (∀ c ∈ keys H, ¬ c = b) → Qf K ops (i + 1) l ((kd, .v (.map (some b))) :: t) ((b, ⟨.map [] 0, [], 0⟩) :: H) N) (hd : Nat.blt kd K.n = true := by rfl) : Qf K ops i (⟨some kd, .makeMap ty none, tp, pos, aft, none⟩ :: l) t H N := YG (O5 hd h)
theorem TY {H' : Qc} {b clock : Nat} {es : List (Value × T × Nat)} {k : Value} [hm : DZ K.P ty kt et kd z] (hK : Yj kd es) (h : Qf K ops (i + 1) l t H' N) (hx : t.ev x = .v (.map (some b)) := by exact zl) (hy : t.ev y = .v k := by exact zl) (hu : t.ev u = d := by exact zl) (hi : Jw H (b, ⟨.map es clock, [], 0⟩) (b, ⟨Db es clock k d, [], 0⟩) H' := by exact zr) (hI : IsK kd k := by first | exact rfl | exact Dp) :
  Qf K ops i (⟨none, .mapUpdate ty x y u, tp, pos, aft, none⟩ :: l) t H N := by
 obtain ⟨j, hj, rfl⟩ := hi
 exact YG (EL j hj hK hI hx (hy ▸ Rr.v) hu h)
theorem Oh {fs : Array Field} {f : Field} {r : List Field} {e : TypeId} {a : Addr} {us vs : List Value} (hu : P.underlying ty = some (.struct fs)) (hh : P.stoodInHeld ty = false) (hfs : fs.toList = f :: r) (hn : f.name ≠ "_") (ho : f.offset = 0) (hp : P.underlying f.type = some (.pointer e)) :
  (Op.equal ty (.agg (.pointer (some a) :: us).toArray) (.agg (.pointer none :: vs).toArray)).run P w = .ok false w := by
 have hfo : P.fieldsOf ty = fs := by simp [Program.fieldsOf, hu]
 have hl : QC P f.type = true := by simp [QC, hp]
 have p1 := X6 (P := P) (w := w) (.pointer (some a) :: us).toArray f.offset (.pointer (some a)) hl (by simp [ho])
 have p2 := X6 (P := P) (w := w) (.pointer none :: vs).toArray f.offset (.pointer none) hl (by simp [ho])
 show (Op.equalIn (9999 + 1) ty _ _).run P w = _
 rw [run_equalIn_struct w 9999 ty _ _ (by rw [hfo]; exact hu) hh, hfo, hfs]
 have h3 : (Op.equalIn 9999 f.type (.pointer (some a)) (.pointer none)).run P w = .ok false w := by
  show (Op.equalIn (9998 + 1) f.type (.pointer (some a)) (.pointer none)).run P w = _
  generalize 9998 = d
  simp [Op.equalIn, run_underlying hp]
 generalize 9999 = d at h3 ⊢
 simp [Op.eqFields, hn, p1, p2, h3]
theorem Tb {ty' : TypeId} {xs ys : List T} {a : Addr} {fs : Array Field} {f : Field} {r : List Field} {e : TypeId} (hg : P.eqGuardType P.depth ty = false) (hx : t.ev x = .agg (.v (.pointer (some a)) :: xs) := by exact zl) (hy : t.ev y = .agg (.v (.pointer none) :: ys) := by exact zl)
  (hu : P.underlying ty = some (.struct fs) := by rfl) (hh : P.stoodInHeld ty = false := by kernel_rfl) (hfs : fs.toList = f :: r := by rfl) (hn : f.name ≠ "_" := by decide) (ho : f.offset = 0 := by rfl) (hp : P.underlying f.type = some (.pointer e) := by rfl) :
  POp P t H ⟨dst, .binOp .neq ty x y ty', tp, pos, aft, g⟩ (.v (.bool (decide True))) :=
 POp.still fun S w a _ _ hr => by
  have h1 := hr x (by simp [Op.operands]); rw [hx] at h1
  have h2 := hr y (by simp [Op.operands]); rw [hy] at h2
  obtain ⟨us, e1, h1⟩ := h1.agg_inv
  obtain ⟨vs, e2, h2⟩ := h2.agg_inv
  cases h1 with
  | cons _ u1 _ us h1 h1' =>
   cases h2 with
   | cons _ v1 _ vs h2 h2' =>
    have f1 := h1.v_eq
    have f2 := h2.v_eq
    subst f1 f2
    refine ⟨_, ?_, .v _⟩
    simp only [execOp, e1, e2]
    simp [eqGuard, binOp, Oh (w := w) (us := us) (vs := vs) hu hh hfs hn ho hp, hg]
end
end Go.Cap
