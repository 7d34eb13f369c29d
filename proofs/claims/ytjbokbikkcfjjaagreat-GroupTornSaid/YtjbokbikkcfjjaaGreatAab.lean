/-
  The ground of these proofs: data as trees ('T'), memory that never turns again ('S'), blocks that a call owns ('Heap'), and what a call does ('FnH').
-/
import Derived.OrdersIn
import Derived.RangeFuncNested
import Derived.WalkKit
import Derived.Test.YtjbokbikkcfjjaaGreatAaa
set_option maxRecDepth 16000
set_option maxHeartbeats 8000000
set_option linter.all false
namespace Go.Cap
section
inductive T where
 | v (x : Value)
 | sl (full : Bool) (xs : List T)
 | adr (x : T)
 | agg (xs : List T)
 | tup (xs : List T)
 | clo (f : FuncId) (fs cs : List T)
 | any
 deriving Inhabited
def T.leaf (x : Value) : T := .v x
def T.ofVal : Value → T
 | .agg cs => .agg (cs.toList.map T.leaf)
 | x => T.leaf x
def T.cells : T → List T
 | .agg xs => xs
 | .v x => x.cells.toList.map T.v
 | .any => []
 | x => [x]
def Seg (cs : List Value) (o k : Nat) (vs : List Value) : Prop :=
 (∀ v ∈ vs, v.cells.size = k) ∧ (cs.drop o).take (vs.length * k) = vs.flatMap (fun v => v.cells.toList)
mutual
inductive Rel (S : Nat → Prop) (w : World) : T → Value → Prop
 | v (x : Value) : Rel S w (.v x) x
 | nil (f : Bool) (p : Option Addr) (c : Nat) (hf : f = true → c = 0) : Rel S w (.sl f []) (.slice p 0 c)
 | sl (f : Bool) (xs : List T) (b o cap : Nat) (vs : List Value) (k : Nat) (cs : Array Value) (ty : TypeId) (fz : Nat × Nat) (hs : S b)
   (hb : w.heap[b]? = some (.cells cs ty fz)) (hr : Qr S w xs vs) (hg : Seg cs.toList o k vs) (hf : f = true → cap = vs.length) (hc : vs.length ≤ cap) :
   Rel S w (.sl f xs) (.slice (some ⟨b, o, none⟩) vs.length cap)
 | adr (x : T) (b o : Nat) (y : Value) (cs : Array Value) (ty : TypeId) (fz : Nat × Nat) (hs : S b)
   (hb : w.heap[b]? = some (.cells cs ty fz)) (hr : Rel S w x y) (hg : (cs.toList.drop o).take y.cells.size = y.cells.toList) :
   Rel S w (.adr x) (.pointer (some ⟨b, o, none⟩))
 | agg (xs : List T) (vs : List Value) (h : Qr S w xs vs) : Rel S w (.agg xs) (.agg vs.toArray)
 | tup (xs : List T) (vs : List Value) (h : Qr S w xs vs) : Rel S w (.tup xs) (.tuple vs.toArray)
 | clo (f : FuncId) (fs cs : List T) (us vs : List Value) (h : Qr S w fs us) (h' : Qr S w cs vs) : Rel S w (.clo f fs cs) (.func (.func f) us.toArray vs.toArray)
 | any (x : Value) : Rel S w .any x
inductive Qr (S : Nat → Prop) (w : World) : List T → List Value → Prop
 | nil : Qr S w [] []
 | cons (x : T) (y : Value) (xs : List T) (ys : List Value) (h : Rel S w x y) (hs : Qr S w xs ys) : Qr S w (x :: xs) (y :: ys)
end
section
variable {S S' : Nat → Prop} {w w' : World}
theorem Qr.length {xs : List T} {ys : List Value} (h : Qr S w xs ys) : ys.length = xs.length := by
 induction xs generalizing ys with
 | nil => cases h; rfl
 | cons x xs ih => cases h with | cons _ y _ ys h hs => simp [ih hs]
theorem Qr.get {xs : List T} {ys : List Value} (h : Qr S w xs ys) {i : Nat} {x : T} (hx : xs[i]? = some x) : ∃ y, ys[i]? = some y ∧ Rel S w x y := by
 induction xs generalizing ys i with
 | nil => simp at hx
 | cons a xs ih =>
  cases h with
  | cons _ y _ ys h hs =>
   cases i with
   | zero => simp at hx; subst hx; exact ⟨y, rfl, h⟩
   | succ i => simpa using ih hs (i := i) (by simpa using hx)
theorem Qr.append {xs xs' : List T} {ys ys' : List Value} (h : Qr S w xs ys) (h' : Qr S w xs' ys') : Qr S w (xs ++ xs') (ys ++ ys') := by
 induction xs generalizing ys with
 | nil => cases h; simpa using h'
 | cons x xs ih => cases h with | cons _ y _ ys h hs => exact .cons _ _ _ _ h (ih hs)
theorem Qr.take {xs : List T} {ys : List Value} (h : Qr S w xs ys) (n : Nat) : Qr S w (xs.take n) (ys.take n) := by
 induction xs generalizing ys n with
 | nil => cases h; simp; exact .nil
 | cons x xs ih => cases h with | cons _ y _ ys h hs => cases n with
  | zero => simp; exact .nil
  | succ n => exact .cons _ _ _ _ h (ih hs n)
theorem Qr.drop {xs : List T} {ys : List Value} (h : Qr S w xs ys) (n : Nat) : Qr S w (xs.drop n) (ys.drop n) := by
 induction xs generalizing ys n with
 | nil => cases h; simp; exact .nil
 | cons x xs ih => cases n with
  | zero => exact h
  | succ n => cases h with | cons _ y _ ys h hs => exact ih hs n
theorem Qr.set {xs : List T} {ys : List Value} (h : Qr S w xs ys) (n : Nat) {x : T} {y : Value} (hx : Rel S w x y) : Qr S w (xs.set n x) (ys.set n y) := by
 induction xs generalizing ys n with
 | nil => cases h; simp; exact .nil
 | cons a xs ih => cases h with | cons _ b _ ys h hs => cases n with
  | zero => exact .cons _ _ _ _ hx hs
  | succ n => exact .cons _ _ _ _ h (ih hs n)
theorem Qr.raw (ys : List Value) : Qr S w (ys.map T.v) ys := by
 induction ys with
 | nil => exact .nil
 | cons y ys ih => exact .cons _ _ _ _ (.v y) ih
theorem Rel.leaf (x : Value) : Rel S w (T.leaf x) x := .v x
theorem Qr.leafs (ys : List Value) : Qr S w (ys.map T.leaf) ys := by
 induction ys with
 | nil => exact .nil
 | cons y ys ih => exact .cons _ _ _ _ (.leaf y) ih
theorem Rel.ofVal (x : Value) : Rel S w (T.ofVal x) x := by
 unfold T.ofVal
 split
 ·rename_i cs
  have := Rel.agg (S := S) (w := w) (cs.toList.map T.leaf) cs.toList (.leafs _)
  simpa using this
 ·exact .leaf _
theorem Rel.v_eq {x y : Value} (h : Rel S w (.v x) y) : y = x := by cases h; rfl
theorem Rel.cells {x : T} {y : Value} (h : Rel S w x y) (hp : 0 < x.cells.length) : Qr S w x.cells y.cells.toList := by
 cases h with
 | v => exact .raw _
 | nil f p c hf => exact .cons _ _ _ _ (.nil f p c hf) .nil
 | sl f xs b o cap vs k cs ty fz hs hb hr hg hf hc => exact .cons _ _ _ _ (.sl f xs b o cap vs k cs ty fz hs hb hr hg hf hc) .nil
 | adr x b o y cs ty fz hs hb hr hg => exact .cons _ _ _ _ (.adr x b o y cs ty fz hs hb hr hg) .nil
 | agg xs vs h => simpa [T.cells, Value.cells] using h
 | tup xs vs h => exact .cons _ _ _ _ (.tup xs vs h) .nil
 | clo f fs cs us vs h h' => exact .cons _ _ _ _ (.clo f fs cs us vs h h') .nil
 | any x => simp [T.cells] at hp
theorem Rel.size {x : T} {y : Value} (h : Rel S w x y) (hp : 0 < x.cells.length) : y.cells.size = x.cells.length := by
 have := (h.cells hp).length
 simpa using this
mutual
theorem Rel.mono (hm : ∀ b, S b → S' b ∧ w'.heap[b]? = w.heap[b]?) : ∀ {x : T} {y : Value}, Rel S w x y → Rel S' w' x y
 | _, _, .v x => .v x
 | _, _, .nil f p c hf => .nil f p c hf
 | _, _, .sl f xs b o cap vs k cs ty fz hs hb hr hg hf hc => .sl f xs b o cap vs k cs ty fz (hm b hs).1 ((hm b hs).2.trans hb) (Qr.mono hm hr) hg hf hc
 | _, _, .adr x b o y cs ty fz hs hb hr hg => .adr x b o y cs ty fz (hm b hs).1 ((hm b hs).2.trans hb) (Rel.mono hm hr) hg
 | _, _, .agg xs vs h => .agg xs vs (Qr.mono hm h)
 | _, _, .tup xs vs h => .tup xs vs (Qr.mono hm h)
 | _, _, .clo f fs cs us vs h h' => .clo f fs cs us vs (Qr.mono hm h) (Qr.mono hm h')
 | _, _, .any x => .any x
theorem Qr.mono (hm : ∀ b, S b → S' b ∧ w'.heap[b]? = w.heap[b]?) : ∀ {xs : List T} {ys : List Value}, Qr S w xs ys → Qr S' w' xs ys
 | _, _, .nil => .nil
 | _, _, .cons x y xs ys h hs => .cons x y xs ys (Rel.mono hm h) (Qr.mono hm hs)
end
end
def Le (x y : T) : Prop := ∀ (S : Nat → Prop) (w : World) (u : Value), Rel S w x u → Rel S w y u
def LeL (xs ys : List T) : Prop := ∀ (S : Nat → Prop) (w : World) (us : List Value), Qr S w xs us → Qr S w ys us
theorem Le.refl (x : T) : Le x x := fun _ _ _ h => h
theorem Le.of_eq {x y : T} (h : x = y) : Le x y := h ▸ Le.refl x
theorem Le.trans {x y z : T} (h : Le x y) (h' : Le y z) : Le x z := fun S w u hu => h' S w u (h S w u hu)
theorem Le.any (x : T) : Le x .any := fun _ _ u _ => .any u
theorem LeL.refl (x : List T) : LeL x x := fun _ _ _ h => h
theorem LeL.nil : LeL [] [] := LeL.refl []
theorem LeL.cons {x y : T} {xs ys : List T} (h : Le x y) (hs : LeL xs ys) : LeL (x :: xs) (y :: ys) := by
 intro S w us hu
 cases hu with | cons _ u _ us h1 h2 => exact .cons _ _ _ _ (h S w u h1) (hs S w us h2)
theorem Le.agg {xs ys : List T} (h : LeL xs ys) : Le (.agg xs) (.agg ys) := by
 intro S w u hu
 cases hu with | agg _ vs hr => exact .agg _ _ (h S w vs hr)
theorem Le.tup {xs ys : List T} (h : LeL xs ys) : Le (.tup xs) (.tup ys) := by
 intro S w u hu
 cases hu with | tup _ vs hr => exact .tup _ _ (h S w vs hr)
theorem Le.sl {xs ys : List T} {f g : Bool} (h : LeL xs ys) (hg : g = true → f = true) : Le (.sl f xs) (.sl g ys) := by
 intro S w u hu
 cases hu with
 | nil _ p c hf =>
  have := (h S w [] .nil).length
  have : ys = [] := by cases ys <;> simp_all
  subst this; exact .nil g p c fun e => hf (hg e)
 | sl _ _ b o cap vs k cs ty fz hs hb hr hgg hf hc => exact .sl g ys b o cap vs k cs ty fz hs hb (h S w vs hr) hgg (fun e => hf (hg e)) hc
theorem Le.full (xs : List T) (f : Bool) : Le (.sl true xs) (.sl f xs) := Le.sl (LeL.refl _) (fun _ => rfl)
theorem Le.nil (f : Bool) : Le (.v (.slice none 0 0)) (.sl f []) := by
 intro S w u hu
 cases hu; exact .nil f none 0 (fun _ => rfl)
structure QN (F : List Nat) (S : Nat → Prop) (w : World) (S' : Nat → Prop) (w' : World) : Prop where
 os : w'.os = w.os
 tape : w'.tape = w.tape
 output : w'.output = w.output
 size : w.heap.size ≤ w'.heap.size
 keep : ∀ b, b < w.heap.size → b ∉ F → w'.heap[b]? = w.heap[b]?
 sub : ∀ b, S b → S' b
 new : ∀ b, S' b → S b ∨ w.heap.size ≤ b ∨ b ∈ F
 wf : ∀ b, S' b → b < w'.heap.size
def Wf (S : Nat → Prop) (w : World) : Prop := ∀ b, S b → b < w.heap.size
section
variable {F F' : List Nat} {S S' S'' : Nat → Prop} {w w' w'' : World}
theorem QN.refl (F : List Nat) (h : Wf S w) : QN F S w S w := ⟨rfl, rfl, rfl, Nat.le_refl _, fun _ _ _ => rfl, fun _ h => h, fun _ h => .inl h, h⟩
theorem QN.trans (h : QN F S w S' w') (k : QN F' S' w' S'' w'') (hF : ∀ b ∈ F', b ∈ F ∨ w.heap.size ≤ b) : QN F S w S'' w'' :=
 ⟨k.os.trans h.os, k.tape.trans h.tape, k.output.trans h.output, Nat.le_trans h.size k.size,
  fun b hb hn => (k.keep b (Nat.lt_of_lt_of_le hb h.size) (fun hm => (hF b hm).elim hn (fun hge => absurd hb (Nat.not_lt.2 hge)))).trans (h.keep b hb hn),
  fun b hb => k.sub b (h.sub b hb),
  fun b hb => by
   rcases k.new b hb with h1 | h1 | h1
   ·exact h.new b h1
   ·exact .inr (.inl (Nat.le_trans h.size h1))
   ·rcases hF b h1 with h2 | h2
    ·exact .inr (.inr h2)
    ·exact .inr (.inl h2),
  k.wf⟩
theorem QN.weaken (h : QN F S w S' w') (hF : ∀ b ∈ F, b ∈ F' ∨ w.heap.size ≤ b) : QN F' S w S' w' :=
 ⟨h.os, h.tape, h.output, h.size, fun b hb hn => h.keep b hb (fun hm => (hF b hm).elim hn (fun hge => absurd hb (Nat.not_lt.2 hge))), h.sub,
  fun b hb => (h.new b hb).imp id fun h1 => h1.elim .inl fun h2 => (hF b h2).elim .inr .inl, h.wf⟩
theorem QN.mono (h : QN F S w S' w') (hw : Wf S w) (hd : ∀ b ∈ F, ¬ S b) : ∀ b, S b → S' b ∧ w'.heap[b]? = w.heap[b]? :=
 fun b hb => ⟨h.sub b hb, h.keep b (hw b hb) (fun hm => hd b hm hb)⟩
end
inductive BTy where
 | ty (t : TypeId)
 | map (es : List (Value × T × Nat)) (clock : Nat)
 | it (m since : Nat) (seen : List Nat) (last : Nat)
instance : Coe TypeId BTy := ⟨.ty⟩
instance (n : Nat) : OfNat BTy n := ⟨.ty n⟩
structure Blk where
 ty : BTy
 cells : List T
 size : Nat
abbrev Qc := List (Nat × Blk)
inductive Ja (S : Nat → Prop) (w : World) : List (Value × T × Nat) → List MapEntry → Prop
 | nil : Ja S w [] []
 | cons (k : Value) (x : T) (n : Nat) (v : Value) (es : List (Value × T × Nat)) (ms : List MapEntry) (h : Rel S w x v) (hs : Ja S w es ms) : Ja S w ((k, x, n) :: es) (⟨k, v, n⟩ :: ms)
def CE (S : Nat → Prop) (w : World) (b : Nat) (es : List (Value × T × Nat)) (clock : Nat) : Prop := ∃ ms : Array MapEntry, w.heap[b]? = some (.map ms clock) ∧ Ja S w es ms.toList
def WL (S : Nat → Prop) (w : World) (b : Nat) : BTy → Prop
 | .ty _ => False
 | .map es clock => CE S w b es clock
 | .it m since seen last => w.heap[b]? = some (.mapIter (some m) since seen.toArray last)
def Has (S : Nat → Prop) (w : World) (b : Nat) (k : Blk) : Prop := match k.ty with
 | .ty ty => ∃ cs : Array Value, w.heap[b]? = some (.cells cs ty (0, 0)) ∧ cs.size = k.size ∧ k.cells.length ≤ k.size ∧ Qr S w k.cells (cs.toList.take k.cells.length)
 | y => WL S w b y ∧ k.cells = [] ∧ k.size = 0
def Blk.vals : Blk → List T
 | ⟨.ty _, cs, _⟩ => cs
 | ⟨.map es _, _, _⟩ => es.map (·.2.1)
 | ⟨.it .., _, _⟩ => []
def keys (H : Qc) : List Nat := H.map (·.1)
structure Own (S : Nat → Prop) (w : World) (H : Qc) : Prop where
 nodup : (keys H).Nodup
 apart : ∀ b ∈ keys H, ¬ S b
 has : ∀ p ∈ H, Has S w p.1 p.2
theorem Ja.mono {S S' : Nat → Prop} {w w' : World} (hm : ∀ b, S b → S' b ∧ w'.heap[b]? = w.heap[b]?) {es : List (Value × T × Nat)} {ms : List MapEntry} (h : Ja S w es ms) : Ja S' w' es ms := by
 induction h with
 | nil => exact .nil
 | cons k x n v es ms h _ ih => exact .cons k x n v es ms (h.mono hm) ih
def V6 : Obj → Bool
 | .cells .. => true
 | .map .. => true
 | .mapIter .. => true
 | _ => false
theorem WL.mem {S : Nat → Prop} {w : World} {b : Nat} {y : BTy} (h : WL S w b y) : ∃ o, w.heap[b]? = some o ∧ V6 o = true := by
 cases y with
 | ty => exact h.elim
 | map es clock => obtain ⟨ms, h, _⟩ := h; exact ⟨_, h, rfl⟩
 | it => exact ⟨_, h, rfl⟩
theorem WL.mono {S S' : Nat → Prop} {w w' : World} {b : Nat} {y : BTy} (h : WL S w b y) (hb : w'.heap[b]? = w.heap[b]?) (hm : ∀ b, S b → S' b ∧ w'.heap[b]? = w.heap[b]?) : WL S' w' b y := by
 cases y with
 | ty => exact h.elim
 | map es clock => obtain ⟨ms, h1, h2⟩ := h; exact ⟨ms, hb.trans h1, h2.mono hm⟩
 | it => exact hb.trans h
theorem Has.cases {S : Nat → Prop} {w : World} {b : Nat} {k : Blk} (h : Has S w b k) :
  (∃ ty, k.ty = .ty ty ∧ ∃ cs : Array Value, w.heap[b]? = some (.cells cs ty (0, 0)) ∧ cs.size = k.size ∧ k.cells.length ≤ k.size ∧ Qr S w k.cells (cs.toList.take k.cells.length)) ∨
  (∃ y, k = ⟨y, [], 0⟩ ∧ WL S w b y) := by
 obtain ⟨ty, cs, n⟩ := k
 cases ty with
 | ty t => exact .inl ⟨t, rfl, h⟩
 | map es clock => obtain ⟨h1, h2, h3⟩ := h; cases h2; cases h3; exact .inr ⟨_, rfl, h1⟩
 | it => obtain ⟨h1, h2, h3⟩ := h; cases h2; cases h3; exact .inr ⟨_, rfl, h1⟩
theorem WL.has {S : Nat → Prop} {w : World} {b : Nat} {y : BTy} (h : WL S w b y) : Has S w b ⟨y, [], 0⟩ := by
 cases y with
 | ty => exact h.elim
 | map => exact ⟨h, rfl, rfl⟩
 | it => exact ⟨h, rfl, rfl⟩
theorem Has.row {S : Nat → Prop} {w : World} {b : Nat} {k : Blk} {ty : TypeId} (h : Has S w b k) (hk : k.ty = .ty ty) :
  ∃ cs : Array Value, w.heap[b]? = some (.cells cs ty (0, 0)) ∧ cs.size = k.size ∧ k.cells.length ≤ k.size ∧ Qr S w k.cells (cs.toList.take k.cells.length) := by
 obtain ⟨_, cs, n⟩ := k
 cases hk
 exact h
theorem Has.of {S : Nat → Prop} {w : World} {b : Nat} {k : Blk} {ty : TypeId} (hk : k.ty = .ty ty)
  (h : ∃ cs : Array Value, w.heap[b]? = some (.cells cs ty (0, 0)) ∧ cs.size = k.size ∧ k.cells.length ≤ k.size ∧ Qr S w k.cells (cs.toList.take k.cells.length)) : Has S w b k := by
 obtain ⟨_, cs, n⟩ := k
 cases hk
 exact h
theorem Has.mem {S : Nat → Prop} {w : World} {b : Nat} {k : Blk} (h : Has S w b k) : ∃ o, w.heap[b]? = some o ∧ V6 o = true := by
 rcases h.cases with ⟨ty, _, cs, h, _⟩ | ⟨y, _, h⟩
 ·exact ⟨_, h, rfl⟩
 ·exact h.mem
theorem Has.lt {S : Nat → Prop} {w : World} {b : Nat} {k : Blk} (h : Has S w b k) : b < w.heap.size := by
 obtain ⟨o, hb, _⟩ := h.mem
 exact (Array.getElem?_eq_some_iff.1 hb).1
theorem Has.mono {S S' : Nat → Prop} {w w' : World} {b : Nat} {k : Blk} (h : Has S w b k) (hb : w'.heap[b]? = w.heap[b]?)
  (hm : ∀ b, S b → S' b ∧ w'.heap[b]? = w.heap[b]?) : Has S' w' b k := by
 rcases h.cases with ⟨ty, hk, cs, h1, h2, h3, h4⟩ | ⟨y, rfl, h1⟩
 ·exact Has.of hk ⟨cs, hb.trans h1, h2, h3, h4.mono hm⟩
 ·exact (h1.mono hb hm).has
theorem Own.lt {S : Nat → Prop} {w : World} {H : Qc} (h : Own S w H) : ∀ b ∈ keys H, b < w.heap.size := by
 intro b hb
 obtain ⟨p, hp, rfl⟩ := List.mem_map.1 hb
 exact (h.has p hp).lt
theorem Own.nil (S : Nat → Prop) (w : World) : Own S w [] := ⟨by simp [keys], by simp [keys], by simp⟩
theorem Own.step {F : List Nat} {S S' : Nat → Prop} {w w' : World} {H : Qc} (h : Own S w H) (hs : QN F S w S' w') (hw : Wf S w) (hF : ∀ b ∈ F, ¬ S b)
  (hd : ∀ b ∈ keys H, b ∉ F) : Own S' w' H :=
 ⟨h.nodup, fun b hb hs' => (hs.new b hs').elim (h.apart b hb) fun h1 => h1.elim (fun h2 => absurd (h.lt b hb) (Nat.not_lt.2 h2)) (hd b hb),
  fun p hp => (h.has p hp).mono (hs.keep _ (h.has p hp).lt (hd _ (List.mem_map.2 ⟨p, hp, rfl⟩))) (hs.mono hw hF)⟩
def FnH (P : Program) (f : FuncId) (args : List T) (H : Qc) (Φ : T → Qc → Prop) : Prop :=
 ∀ (S : Nat → Prop) (w : World) (vs : List Value), Wf S w → Own S w H → Qr S w args vs →
  Calls P f vs.toArray w fun e w' => ∃ u S' r H', e = .returned u ∧ Φ r H' ∧ Rel S' w' r u ∧ Own S' w' H' ∧ QN (keys H) S w S' w' ∧
   ∀ b ∈ keys H', b ∈ keys H ∨ w.heap.size ≤ b
def FnP (P : Program) (f : FuncId) (args : List T) (Φ : T → Prop) : Prop := FnH P f args [] fun r H => H = [] ∧ Φ r
end
abbrev Env := List (Nat × T)
def Env.get : Env → Nat → T
 | [], _ => .any
 | (j, d) :: r, k => bif Nat.beq j k then d else Env.get r k
def Env.put (t : Env) (dst : Option Tmp) (d : T) : Env := match dst with
 | some k => (k, d) :: t
 | none => t
def Env.ev (t : Env) : Operand → T
 | .tmp k => t.get k
 | .const x => T.ofVal x
 | .global g => .v (.pointer (some ⟨g, 0, none⟩))
 | .func f => .v (.func (.func f) #[] #[])
def Xo (dst : Option Tmp) (n : Nat) : Bool := match dst with
 | some k => Nat.blt k n
 | none => true
def Vs (w w' : World) : Prop := ∀ (b : Nat) (o : Obj), w.heap[b]? = some o → V6 o = false → w'.heap[b]? = some o
theorem Vs.refl (w : World) : Vs w w := fun _ _ h _ => h
theorem Vs.trans {w w' w'' : World} (h : Vs w w') (k : Vs w' w'') : Vs w w'' := fun b o hb ho => k b o (h b o hb ho) ho
theorem QN.objs {F : List Nat} {S S' : Nat → Prop} {w w' : World} (h : QN F S w S' w') (hF : ∀ b ∈ F, ∃ o, w.heap[b]? = some o ∧ V6 o = true) : Vs w w' := fun b o hb ho =>
 (h.keep b (Array.getElem?_eq_some_iff.1 hb).1 (fun hm => by
  obtain ⟨o', h1, h2⟩ := hF b hm
  rw [hb] at h1; cases h1; rw [ho] at h2; cases h2)).trans hb
theorem Has.isMem {S : Nat → Prop} {w : World} {b : Nat} {k : Blk} (h : Has S w b k) : ∃ o, w.heap[b]? = some o ∧ V6 o = true := h.mem
theorem QN.objs0 {S S' : Nat → Prop} {w w' : World} (h : QN [] S w S' w') : Vs w w' := h.objs (by simp)
structure Ju where
 X : Nat → World → Prop
 hX : ∀ j w w', X j w → Vs w w' → X j w'
def Ju.none : Ju := ⟨fun _ _ => True, fun _ _ _ _ _ => trivial⟩
structure Ctx where
 P : Program
 n : Nat
 S0 : Nat → Prop
 w0 : World
 F0 : List Nat
 rd : Option Nat
 fl : Ju
 mb : Nat
 D : List Deferred
def RF (r : Option Nat) : Fence := { Fence.wide with round := r }
theorem Jp (r : Option Nat) (n : Nat) : (RF r).room n := fun d hd => by cases hd
theorem DS {P : Program} {f : FuncId} {args : Array Value} {w : World} {Q : Ending → World → Prop} (r : Option Nat) (h : Calls P f args w Q) : CallsIn (RF r) 0 P f args w Q := (callsIn_wide (n := 0)).2 h
def ZC (S : Nat → Prop) (w : World) (t : Env) (a : Act) : Prop := ∀ k, Rel S w (t.get k) (a.tmps.getD k undef)
def Mks (D : List Deferred) (mb : Nat) (ds : List Deferred) (w : World) : Prop :=
 ∃ ms ms0, ds = ms ++ (D ++ ms0) ∧ (ms ++ ms0).Nodup ∧ ∀ d ∈ ms ++ ms0, ∃ E, d = ⟨.collected E, #[]⟩ ∧ mb ≤ E ∧ w.heap[E]? = some (.deferred (some []))
theorem Mks.zero {mb : Nat} {w : World} : Mks [] mb [] w := ⟨[], [], rfl, List.nodup_nil, by simp⟩
theorem Mks.nil {mb : Nat} {ds : List Deferred} {w : World} (h : Mks [] mb ds w) : ds.Nodup ∧ ∀ d ∈ ds, ∃ E, d = ⟨.collected E, #[]⟩ ∧ mb ≤ E ∧ w.heap[E]? = some (.deferred (some [])) := by
 obtain ⟨ms, ms0, rfl, h1, h2⟩ := h
 rw [List.nil_append]
 exact ⟨h1, h2⟩
theorem Mks.step {D : List Deferred} {mb : Nat} {ds : List Deferred} {w w' : World} (h : Mks D mb ds w) (ho : ∀ E : Nat, w.heap[E]? = some (.deferred (some [])) → w'.heap[E]? = some (.deferred (some []))) : Mks D mb ds w' := by
 obtain ⟨ms, ms0, h0, h1, h2⟩ := h
 exact ⟨ms, ms0, h0, h1, fun d hd => let ⟨E, e1, e2, e3⟩ := h2 d hd; ⟨E, e1, e2, ho E e3⟩⟩
theorem Mks.cons {D : List Deferred} {mb : Nat} {ds : List Deferred} {w w' : World} (h : Mks D mb ds w) (ho : ∀ E : Nat, w.heap[E]? = some (.deferred (some [])) → w'.heap[E]? = some (.deferred (some []))) (hmb : mb ≤ w.heap.size) (hw : w'.heap[w.heap.size]? = some (.deferred (some []))) :
  Mks D mb (⟨.collected w.heap.size, #[]⟩ :: ds) w' := by
 obtain ⟨ms, ms0, rfl, h1, h2⟩ := h
 refine ⟨⟨.collected w.heap.size, #[]⟩ :: ms, ms0, rfl, List.nodup_cons.2 ⟨fun hm => ?_, h1⟩, fun d hd => ?_⟩
 ·obtain ⟨E, e1, _, e3⟩ := h2 _ hm
  cases e1
  have := (Array.getElem?_eq_some_iff.1 e3).1
  omega
 ·rcases List.mem_cons.1 hd with rfl | hd
  ·exact ⟨_, rfl, hmb, hw⟩
  ·obtain ⟨E, e1, e2, e3⟩ := h2 d hd
   exact ⟨E, e1, e2, ho E e3⟩
structure Ext (K : Ctx) (S : Nat → Prop) (t : Env) (a : Act) (w : World) : Prop where
 low : K.mb ≤ w.heap.size
 marks : Mks K.D K.mb a.defers w
 flags : ∀ j, (∀ u, Rel S w (t.get (K.n + j)) u → u = undef) → K.fl.X j w
theorem Ext.env {K : Ctx} {S : Nat → Prop} {t t' : Env} {a : Act} {w : World} (h : Ext K S t a w) (he : ∀ j, t.get (K.n + j) = t'.get (K.n + j)) : Ext K S t' a w := ⟨h.low, h.marks, fun j hj => h.flags j (by rw [he]; exact hj)⟩
theorem Ext.step {K : Ctx} {S S' : Nat → Prop} {t : Env} {a : Act} {w w' : World} (h : Ext K S t a w) (hm : ∀ b, S b → S' b ∧ w'.heap[b]? = w.heap[b]?) (ho : Vs w w') (hl : w.heap.size ≤ w'.heap.size) : Ext K S' t a w' :=
 ⟨Nat.le_trans h.low hl, h.marks.step fun D h3 => ho D _ h3 rfl, fun j hj => K.fl.hX j w w' (h.flags j fun u hu => hj u (hu.mono hm)) ho⟩
structure R1 (K : Ctx) (t : Env) (H : Qc) (a : Act) (w : World) (S : Nat → Prop) : Prop where
 size : a.tmps.size = K.n
 defers : Ext K S t a w
 step : QN K.F0 K.S0 K.w0 S w
 own : Own S w H
 mine : ∀ b ∈ keys H, b ∈ K.F0 ∨ K.w0.heap.size ≤ b
 env : ZC S w t a
def R (K : Ctx) (t : Env) (H : Qc) (a : Act) (w : World) : Prop := ∃ S, R1 K t H a w S
def Sim (K : Ctx) (c : Code) (t : Env) (H : Qc) (Ψ : Exit → Env → Qc → Prop) : Prop :=
 ∀ a w, R K t H a w → c.wpIn (RF K.rd) 0 K.P (fun e a' w' => ∃ t' H', Ψ e t' H' ∧ R K t' H' a' w') a w
theorem ZQ {j k : Nat} (h : ¬ j = k) : Nat.beq j k = false := by
 cases hb : Nat.beq j k
 ·rfl
 ·exact absurd (Nat.eq_of_beq_eq_true hb) h
theorem Env.get_put_self (t : Env) (k : Nat) (d : T) : (t.put (some k) d).get k = d := by simp [Env.put, Env.get]
theorem Env.get_put_ne (t : Env) {j k : Nat} (d : T) (h : j ≠ k) : (t.put (some j) d).get k = t.get k := by
 simp [Env.put, Env.get, ZQ h]
theorem Act.getD_put (a : Act) (j k : Nat) (v : Value) (hj : j < a.tmps.size) : (a.put (some j) v).tmps.getD k undef = if j = k then v else a.tmps.getD k undef := by
 simp only [Act.put, Array.getD_eq_getD_getElem?, Array.getElem?_setIfInBounds]
 by_cases h : j = k
 ·subst h; simp [hj]
 ·simp [h]
theorem ZC.put {S : Nat → Prop} {w : World} {t : Env} {a : Act} (h : ZC S w t a) {dst : Option Tmp} {d : T} {v : Value} (hd : Xo dst a.tmps.size = true)
  (hv : Rel S w d v) : ZC S w (t.put dst d) (a.put dst v) := by
 cases dst with
 | none => exact h
 | some j =>
  intro k
  have hj : j < a.tmps.size := by simpa [Xo] using hd
  rw [Act.getD_put a j k v hj]
  by_cases hk : j = k
  ·subst hk; rw [Env.get_put_self, if_pos rfl]; exact hv
  ·rw [Env.get_put_ne t d hk, if_neg hk]; exact h k
theorem ZC.mono {S S' : Nat → Prop} {w w' : World} {t : Env} {a : Act} (h : ZC S w t a) (hm : ∀ b, S b → S' b ∧ w'.heap[b]? = w.heap[b]?) : ZC S' w' t a :=
 fun k => (h k).mono hm
theorem ZC.ev {S : Nat → Prop} {w : World} {t : Env} {a : Act} (h : ZC S w t a) (x : Operand) : Rel S w (t.ev x) (a.eval x) := by
 cases x with
 | tmp k => exact h k
 | const x => exact .ofVal x
 | global g => exact .v _
 | func f => exact .v _
@[simp] theorem Act.size_put (a : Act) (dst : Option Tmp) (v : Value) : (a.put dst v).tmps.size = a.tmps.size := by cases dst <;> simp [Act.put]
@[simp] theorem Act.defers_put (a : Act) (dst : Option Tmp) (v : Value) : (a.put dst v).defers = a.defers := by cases dst <;> rfl
theorem Ext.put {K : Ctx} {S : Nat → Prop} {t : Env} {a : Act} {w : World} {dst : Option Tmp} {d : T} {v : Value} (h : Ext K S t a w) (hd : Xo dst K.n = true) : Ext K S (t.put dst d) (a.put dst v) w :=
 ⟨h.low, by simpa using h.marks, fun j hj => h.flags j (by
  cases dst with
  | none => exact hj
  | some k =>
   have hk : k < K.n := by simpa [Xo] using hd
   have hne : ¬ k = K.n + j := Nat.ne_of_lt (Nat.lt_of_lt_of_le hk (Nat.le_add_right _ _))
   rwa [Env.get_put_ne t d hne] at hj)⟩
theorem R1.wf {K : Ctx} {t : Env} {H : Qc} {a : Act} {w : World} {S : Nat → Prop} (h : R1 K t H a w S) : Wf S w := h.step.wf
theorem R1.pure {K : Ctx} {t : Env} {H : Qc} {a : Act} {w w' : World} {S S' : Nat → Prop} (h : R1 K t H a w S) (hs : QN [] S w S' w') {dst : Option Tmp} {d : T} {v : Value}
  (hd : Xo dst K.n = true) (hv : Rel S' w' d v) : R1 K (t.put dst d) H (a.put dst v) w' S' where
 size := by simp [h.size]
 defers := (h.defers.step (hs.mono h.wf (by simp)) hs.objs0 hs.size).put hd
 step := h.step.trans hs (by simp)
 own := h.own.step hs h.wf (by simp) (by simp)
 mine := h.mine
 env := (h.env.mono (hs.mono h.wf (by simp))).put (by rw [h.size]; exact hd) hv
def ZD (t : Env) : Env → Prop
 | [] => True
 | (k, d) :: r => Le (t.get k) d ∧ ZD t r
theorem ZD.get {t : Env} : ∀ {t' : Env}, ZD t t' → ∀ k, Le (t.get k) (t'.get k)
 | [], _, k => Le.any _
 | (j, d) :: r, h, k => by
  by_cases hk : j = k
  ·subst hk; have : Env.get ((j, d) :: r) j = d := by simp [Env.get]
   rw [this]; exact h.1
  ·have hb : Nat.beq j k = false := ZQ hk
   have : Env.get ((j, d) :: r) k = Env.get r k := by simp [Env.get, hb]
   rw [this]; exact ZD.get h.2 k
def Yp (k k' : Blk) : Prop := k'.ty = k.ty ∧ k'.size = k.size ∧ k'.cells.length ≤ k.cells.length ∧ LeL (k.cells.take k'.cells.length) k'.cells
theorem Yp.refl (k : Blk) : Yp k k := ⟨rfl, rfl, Nat.le_refl _, by simpa using LeL.refl _⟩
theorem Yp.cells {ty : BTy} {n : Nat} {cs cs' : List T} (hl : cs'.length = cs.length) (h : LeL cs cs') : Yp ⟨ty, cs, n⟩ ⟨ty, cs', n⟩ :=
 ⟨rfl, rfl, Nat.le_of_eq hl, by simpa [hl] using h⟩
theorem Has.le {S : Nat → Prop} {w : World} {b : Nat} {k k' : Blk} (h : Has S w b k) (hl : Yp k k') : Has S w b k' := by
 obtain ⟨e1, e2, e3, e4⟩ := hl
 rcases h.cases with ⟨ty, hk, cs, h1, h2, h3, h4⟩ | ⟨y, rfl, h1⟩
 ·refine Has.of (e1.trans hk) ⟨cs, h1, by rw [e2]; exact h2, by rw [e2]; omega, ?_⟩
  have := h4.take k'.cells.length
  rw [List.take_take, Nat.min_eq_left e3] at this
  exact e4 S w _ this
 ·obtain ⟨_, cs, n⟩ := k'
  cases e1; cases e2
  have : cs = [] := List.length_eq_zero_iff.1 (Nat.le_zero.1 e3)
  subst this
  exact h1.has
def Xr (H H' : Qc) : Prop := (keys H').Nodup ∧ ∀ p ∈ H', ∃ k, (p.1, k) ∈ H ∧ Yp k p.2
theorem Own.le {S : Nat → Prop} {w : World} {H H' : Qc} (h : Own S w H) (hl : Xr H H') : Own S w H' where
 nodup := hl.1
 apart := by
  intro b hb
  obtain ⟨p, hp, rfl⟩ := List.mem_map.1 hb
  obtain ⟨k, hk, _⟩ := hl.2 p hp
  exact h.apart _ (List.mem_map.2 ⟨_, hk, rfl⟩)
 has := by
  intro p hp
  obtain ⟨k, hk, hle⟩ := hl.2 p hp
  exact (h.has _ hk).le hle
theorem Xr.sub {H H' : Qc} (hl : Xr H H') : ∀ b ∈ keys H', b ∈ keys H := by
 intro b hb
 obtain ⟨p, hp, rfl⟩ := List.mem_map.1 hb
 obtain ⟨k, hk, _⟩ := hl.2 p hp
 exact List.mem_map.2 ⟨_, hk, rfl⟩
theorem R.le {K : Ctx} {t t' : Env} {H H' : Qc} {a : Act} {w : World} (h : R K t H a w) (ht : ZD t t') (hH : (Cap.keys H).Nodup → Xr H H') : R K t' H' a w := by
 obtain ⟨S, h⟩ := h
 exact ⟨S, h.size, ⟨h.defers.low, h.defers.marks, fun j hj => h.defers.flags j fun u hu => hj u (ht.get _ _ _ _ hu)⟩, h.step, h.own.le (hH h.own.nodup), fun b hb => h.mine b ((hH h.own.nodup).sub b hb), fun k => ht.get k _ _ _ (h.env k)⟩
theorem Xr.refl {H : Qc} (h : (keys H).Nodup) : Xr H H := ⟨h, fun p hp => ⟨p.2, hp, Yp.refl _⟩⟩
theorem Xr.nil (H : Qc) : Xr H [] := ⟨by simp [Cap.keys], by simp⟩
section rules
variable {K : Ctx} {t : Env} {H : Qc} {Ψ : Exit → Env → Qc → Prop}
theorem VO {c : Code} {Ψ' : Exit → Env → Qc → Prop} (h : Sim K c t H Ψ) (hm : ∀ e t H, Ψ e t H → Ψ' e t H) : Sim K c t H Ψ' :=
 fun a w hr => wpIn_mono (h a w hr) fun _ _ _ ⟨t', H', hp, hr'⟩ => ⟨t', H', hm _ _ _ hp, hr'⟩
theorem D7 {c : Code} {t' : Env} {H' : Qc} (ht : ZD t t') (hH : (Cap.keys H).Nodup → Xr H H') (h : Sim K c t' H' Ψ) : Sim K c t H Ψ :=
 fun a w hr => h a w (hr.le ht hH)
theorem RR (h : Ψ .normal t H) : Sim K .skip t H Ψ := fun _ _ hr => wpIn_skip ⟨t, H, h, hr⟩
theorem Oc {l : Nat} (h : Ψ .normal t H) : Sim K (.label l) t H Ψ := fun _ _ hr => wpIn_label ⟨t, H, h, hr⟩
theorem RU {id : Nat} (h : Ψ (.exit id) t H) : Sim K (.exit id) t H Ψ := fun _ _ hr => wpIn_exit ⟨t, H, h, hr⟩
theorem Yt (h : Ψ .ret t H) : Sim K .ret t H Ψ := fun _ _ hr => wpIn_ret ⟨t, H, h, hr⟩
def W4 (K : Ctx) (y : Code) (Ψ : Exit → Env → Qc → Prop) : Exit → Env → Qc → Prop
 | .normal, t, H => Sim K y t H Ψ
 | e, t, H => Ψ e t H
theorem CN {x y : Code} (h : Sim K x t H (W4 K y Ψ)) : Sim K (.seq x y) t H Ψ := fun a w hr =>
 wpIn_seq (wpIn_mono (h a w hr) fun e a' w' ⟨t', H', hp, hr'⟩ => by cases e <;> first | exact hp a' w' hr' | exact ⟨t', H', hp, hr'⟩)
def MD (id : Nat) (Ψ : Exit → Env → Qc → Prop) : Exit → Env → Qc → Prop
 | .exit id', t, H => bif Nat.beq id' id then Ψ .normal t H else Ψ (.exit id') t H
 | e, t, H => Ψ e t H
theorem Od {id : Nat} {c : Code} (h : Sim K c t H (MD id Ψ)) : Sim K (.block id c) t H Ψ := fun a w hr =>
 wpIn_block (wpIn_mono (h a w hr) fun e a' w' ⟨t', H', hp, hr'⟩ => by
  cases e with
  | exit id' =>
   simp only [MD] at hp
   simp only [Exit.inBlock]
   by_cases hid : id' = id
   ·have : Nat.beq id' id = true := by simpa using hid
    rw [this, cond_true] at hp
    rw [if_pos hid]; exact ⟨t', H', hp, hr'⟩
   ·have : Nat.beq id' id = false := ZQ hid
    rw [this, cond_false] at hp
    rw [if_neg hid]; exact ⟨t', H', hp, hr'⟩
  | _ => exact ⟨t', H', hp, hr'⟩)
theorem WN {c : Operand} {x y : Code} {b : Bool} (hc : t.ev c = .v (.bool b)) (ht : b = true → Sim K x t H Ψ) (hf : b = false → Sim K y t H Ψ) :
  Sim K (.cond c x y) t H Ψ := fun a w hr => by
 have hb : a.eval c = .bool b := by
  obtain ⟨S, h⟩ := hr
  have := h.env.ev c
  rw [hc] at this
  exact this.v_eq
 exact wpIn_cond_split hb (fun e => ht e a w hr) (fun e => hf e a w hr)
theorem RV {c : Operand} {x y : Code} {p : Prop} {_ : Decidable p} (hc : t.ev c = .v (.bool (decide p))) (ht : p → Sim K x t H Ψ) (hf : ¬ p → Sim K y t H Ψ) :
  Sim K (.cond c x y) t H Ψ := WN hc (fun e => ht (of_decide_eq_true e)) (fun e => hf (of_decide_eq_false e))
def Tr {σ : Type} (inv : σ → Env → Qc → Prop) (μ : σ → Nat) (s : σ) (Ψ : Exit → Env → Qc → Prop) : Exit → Env → Qc → Prop
 | .normal, t, H => ∃ s', μ s' < μ s ∧ inv s' t H
 | e, t, H => Ψ e t H
theorem RT {σ : Type} {c : Code} (inv : σ → Env → Qc → Prop) (μ : σ → Nat) (s : σ) (h0 : inv s t H)
  (round : ∀ s t H, inv s t H → Sim K c t H (Tr inv μ s Ψ)) : Sim K (.loop c) t H Ψ := by
 intro a w hr b k cs hro hb hrm
 have key : ∀ n s t H a w, μ s = n → inv s t H → R K t H a w →
   ∃ e a' w', (∃ t' H', Ψ e t' H' ∧ R K t' H' a' w') ∧ ArrivesIn (Machine.fenced K.P (RF K.rd)) K.P (lone (b.atR a (.code c :: .inLoop c :: k)) cs w) b k cs e a' w' := by
  intro n
  induction n using Nat.strongRecOn with
  | _ n ih =>
   intro s t H a w hn hi hr
   obtain ⟨e, a₁, w₁, ⟨t₁, H₁, hq, hr₁⟩, harr⟩ := round s t H hi a w hr b (.inLoop c :: k) cs hro hb hrm
   cases e with
   | normal =>
    obtain ⟨s', hlt, hi'⟩ := hq
    obtain ⟨e₂, a₂, w₂, hq₂, harr₂⟩ := ih (μ s') (hn ▸ hlt) s' t₁ H₁ a₁ w₁ rfl hi' hr₁
    exact ⟨e₂, a₂, w₂, hq₂, .of_steps (StepsIn.trans harr (.one (fenced_calm hb hrm rfl) stepR_inLoop)) harr₂⟩
   | exit id => exact ⟨_, a₁, w₁, ⟨t₁, H₁, hq, hr₁⟩, .pass (x := .inLoop c) rfl (fun _ _ => .inl (by simp)) harr⟩
   | goto l => exact ⟨_, a₁, w₁, ⟨t₁, H₁, hq, hr₁⟩, .pass (x := .inLoop c) rfl (fun _ _ => .inl (by simp)) harr⟩
   | ret => exact ⟨_, a₁, w₁, ⟨t₁, H₁, hq, hr₁⟩, .pass (x := .inLoop c) rfl (fun _ _ => .inl (by simp)) harr⟩
   | panic ch => exact ⟨_, a₁, w₁, ⟨t₁, H₁, hq, hr₁⟩, .pass (x := .inLoop c) rfl (fun _ _ => .inl (by simp)) harr⟩
   | outgrown => exact ⟨_, a₁, w₁, ⟨t₁, H₁, hq, hr₁⟩, .pass (x := .inLoop c) rfl (fun _ _ => .inl (by simp)) harr⟩
 obtain ⟨e, a', w', hq, harr⟩ := key _ s t H a w rfl h0 hr
 exact ⟨e, a', w', hq, .of_steps (.one (fenced_calm hb hrm rfl) stepR_loop) harr⟩
end rules
def POp (P : Program) (t : Env) (H : Qc) (o : Oper) (d : T) : Prop :=
 ∀ (S : Nat → Prop) (w : World) (a : Act), Wf S w → Own S w H → (∀ x ∈ o.op.operands, Rel S w (t.ev x) (a.eval x)) →
  ∀ (Kc : Act → World → Prop) (Q : Exit → Act → World → Prop), (∀ S' w' v, QN [] S w S' w' → Rel S' w' d v → Kc (a.put o.dst v) w') → o.wp P a w Kc Q
theorem J6 {P : Program} {o : Oper} {a : Act} {w : World} {Kc : Act → World → Prop} {Q : Exit → Act → World → Prop} (r : Option Nat) (hd : ∀ c, o.op ≠ .defer c) (h : o.wp P a w Kc Q) : o.wpIn (RF r) 0 P a w Kc Q := by
 have e : o.semAt (RF r).round a.eval = execOp a.eval o := by
  cases r with
  | none => rfl
  | some l => exact Oper.semAt_some l _ o hd
 refine ⟨fun _ _ => trivial, ?_⟩
 rw [e]
 unfold Oper.wp at h
 generalize (execOp a.eval o).run P w = res at h
 cases res with
 | ok x w' =>
  have hdep : ∀ (p : Prop), (RF r).depth.isSome = true → p := fun p hh => Bool.noConfusion (show false = true from hh)
  cases x with
  | enter f args => exact ⟨hdep _, DS r h⟩
  | row row args =>
   exact ⟨hdep _, fun c cs _ =>
    let ⟨v, w2, hr, hs⟩ := h c cs
    ⟨v, w2, hr, stepsIn_wide.2 hs⟩⟩
  | value v => exact h
  | skip => exact h
  | defer d => exact h
  | _ => exact h.elim
 | halt x w' => cases x <;> simp only [Oper.upon, Oper.uponIn] at h ⊢ <;> exact h
theorem YV {P : Program} {o : Oper} {a : Act} {w : World} {S : Nat → Prop} {d : T} {r : Option Nat} {Kc : Act → World → Prop} {Q : Exit → Act → World → Prop}
  (h : ∀ (Kc : Act → World → Prop) (Q : Exit → Act → World → Prop), (∀ S' w' v, QN [] S w S' w' → Rel S' w' d v → Kc (a.put o.dst v) w') → o.wp P a w Kc Q)
  (hk : ∀ S' w' v, QN [] S w S' w' → Rel S' w' d v → Kc (a.put o.dst v) w') : o.wpIn (RF r) 0 P a w Kc Q := by
 refine J6 r (fun c hc => ?_) (h Kc Q hk)
 have := h (fun a' _ => a'.defers = a.defers) (fun _ _ _ => False) (fun _ _ _ _ _ => by cases o.dst <;> rfl)
 unfold Oper.wp at this
 have e : execOp a.eval o = (do let d ← resolve a.eval c o.type; pure (.defer d)) := by
  unfold execOp
  rw [hc]
 rw [e] at this
 simp only [Sem.run_bind] at this
 generalize (resolve a.eval c o.type).run P w = res at this
 cases res with
 | ok x w' =>
  simp only [Result.andThen_ok, Sem.run_pure, Oper.upon] at this
  have h2 : (({ a with defers := x :: a.defers } : Act).put o.dst undef).defers = x :: a.defers := by cases o.dst <;> rfl
  rw [h2] at this
  have := congrArg List.length this
  simp at this
 | halt x w' => cases x <;> simp [Result.andThen, Oper.upon] at this
def Qf (K : Ctx) (ops : Array Oper) (i : Nat) (l : List Oper) (t : Env) (H : Qc) (N : Env → Qc → Prop) : Prop :=
 (∀ j, l[j]? = ops[i + j]?) → ∀ a w Q, R K t H a w → (∀ t' H' a' w', N t' H' → R K t' H' a' w' → Q .normal a' w') →
  wpOpsIn (RF K.rd) 0 K.P ops Q (List.range' i l.length) a w
def EOp (K : Ctx) (t : Env) (H : Qc) (o : Oper) (N : Env → Qc → Prop) : Prop :=
 ∀ a w, R K t H a w → ∀ (Kc : Act → World → Prop) (Q : Exit → Act → World → Prop), (∀ t' H' a' w', N t' H' → R K t' H' a' w' → Kc a' w') → o.wpIn (RF K.rd) 0 K.P a w Kc Q
section
variable {K : Ctx} {t : Env} {H : Qc} {N : Env → Qc → Prop} {ops : Array Oper} {i : Nat} {o : Oper} {l : List Oper}
theorem IV (h : N t H) : Qf K ops i [] t H N := fun _ a w Q hr hq => by simpa [wpOpsIn] using hq t H a w h hr
theorem Jz {Q : Exit → Act → World → Prop} {a : Act} {w : World} :
  wpOpsIn (RF K.rd) 0 K.P ops Q (List.range' i (o :: l).length) a w = wpOpIn (RF K.rd) 0 K.P ops Q i (wpOpsIn (RF K.rd) 0 K.P ops Q (List.range' (i + 1) l.length)) a w := by
 rw [List.length_cons, List.range'_succ, wpOpsIn_cons]
theorem WH (hl : ∀ j, (o :: l)[j]? = ops[i + j]?) : ops[i]? = some o := by have := hl 0; simpa using this.symm
theorem US (hl : ∀ j, (o :: l)[j]? = ops[i + j]?) : ∀ j, l[j]? = ops[i + 1 + j]? := fun j => by
 have := hl (j + 1)
 rw [List.getElem?_cons_succ] at this
 rw [this]; congr 1; omega
theorem Q7 (hg : o.guard = none) (a : Act) : Region.wanted o (yielded ops a.tmps) = true := by simp [Region.wanted, hg]
theorem UK (hg : o.guard = none) (h : EOp K t H o (fun t' H' => Qf K ops (i + 1) l t' H' N)) : Qf K ops i (o :: l) t H N := by
 intro hl a w Q hr hq
 rw [Jz]
 unfold wpOpIn
 simp only [WH hl, Q7 hg a, if_true]
 exact h a w hr _ Q fun t' H' a' w' hn hr' => hn (US hl) a' w' Q hr' hq
theorem EOp.of_w (hd : ∀ c, o.op ≠ .defer c) (h : ∀ a w, R K t H a w → ∀ (Kc : Act → World → Prop) (Q : Exit → Act → World → Prop), (∀ t' H' a' w', N t' H' → R K t' H' a' w' → Kc a' w') → o.wp K.P a w Kc Q) : EOp K t H o N :=
 fun a w hr Kc Q hk => J6 _ hd (h a w hr Kc Q hk)
theorem EOp.of_pop {d : T} (hp : POp K.P t H o d) (hd : Xo o.dst K.n = true) (h : N (t.put o.dst d) H) : EOp K t H o N := by
 intro a w ⟨S, hr⟩ Kc Q hk
 exact YV (hp S w a hr.wf hr.own (fun x _ => hr.env.ev x)) fun S' w' v hs hv => hk _ _ _ _ h ⟨S', hr.pure hs hd hv⟩
theorem IU {d : T} (hp : POp K.P t H o d) (hg : o.guard = none) (hd : Xo o.dst K.n = true) (h : Qf K ops (i + 1) l (t.put o.dst d) H N) :
  Qf K ops i (o :: l) t H N := UK hg (EOp.of_pop hp hd h)
theorem AN {op : Op} {tp : TypeId} {pos : String} {aft : Array Edge} {k : Tmp} {d : T} (hp : POp K.P t H ⟨some k, op, tp, pos, aft, none⟩ d) (hd : Nat.blt k K.n = true)
  (h : Qf K ops (i + 1) l ((k, d) :: t) H N) : Qf K ops i (⟨some k, op, tp, pos, aft, none⟩ :: l) t H N := IU hp rfl hd h
theorem YG {dst : Option Tmp} {op : Op} {tp : TypeId} {pos : String} {aft : Array Edge} (h : EOp K t H ⟨dst, op, tp, pos, aft, none⟩ (fun t' H' => Qf K ops (i + 1) l t' H' N)) :
  Qf K ops i (⟨dst, op, tp, pos, aft, none⟩ :: l) t H N := UK rfl h
theorem Xv {j k : Nat} {want : Bool} {a : Act} {gv : Value} (hg : o.guard = some (j, want)) (hj : (ops[j]?).bind (·.dst) = some k) (hb : a.tmps.getD k undef = gv) :
  (gv = .bool want → Region.wanted o (yielded ops a.tmps) = true) ∧ (¬ gv = .bool want → Region.wanted o (yielded ops a.tmps) = false) := by
 rw [Array.getD_eq_getD_getElem?] at hb
 cases h : a.tmps[k]? with
 | none =>
  rw [h] at hb; simp at hb; subst hb
  exact ⟨fun e => by simp [undef] at e, fun _ => by simp [Region.wanted, hg, yielded, hj, h]⟩
 | some v =>
  rw [h] at hb; simp at hb; subst hb
  refine ⟨fun e => by simp [Region.wanted, hg, yielded, hj, h, e], fun e => ?_⟩
  simp only [Region.wanted, hg, yielded, hj, h, Option.bind_some]
  cases v with
  | bool b => simp; intro hb; exact e (by rw [hb])
  | _ => rfl
theorem Jm {d e : T} {j k : Nat} {want : Bool} {gv : Value} (hg : o.guard = some (j, want)) (hj : (ops[j]?).bind (·.dst) = some k) (hb : t.get k = .v gv)
  (hp : gv = .bool want → POp K.P t H o d) (he : gv = .bool want → e = d) (hn : ¬ gv = .bool want → e = .v undef) (hd : Xo o.dst K.n = true) (h : Qf K ops (i + 1) l (t.put o.dst e) H N) :
  Qf K ops i (o :: l) t H N := by
 intro hl a w Q hr hq
 rw [Jz]
 unfold wpOpIn
 obtain ⟨S, hr⟩ := hr
 have hv : a.tmps.getD k undef = gv := by have := hr.env k; rw [hb] at this; exact this.v_eq
 simp only [WH hl]
 by_cases hw : gv = .bool want
 ·simp only [(Xv hg hj hv).1 hw, if_true]
  rw [he hw] at h
  exact YV (hp hw S w a hr.wf hr.own (fun x _ => hr.env.ev x)) fun S' w' v hs hv => h (US hl) _ _ Q ⟨S', hr.pure hs hd hv⟩ hq
 ·simp only [(Xv hg hj hv).2 hw, Bool.false_eq_true, if_false]
  rw [hn hw] at h
  exact ⟨fun _ _ => trivial, h (US hl) _ _ Q ⟨S, hr.pure (QN.refl _ hr.wf) hd (.v undef)⟩ hq⟩
theorem D9 {id : Nat} {Ψ : Exit → Env → Qc → Prop} (h : Qf K ops 0 ops.toList t H (Ψ .normal)) : Sim K (.region id ops false) t H Ψ := by
 intro a w hr
 refine wpIn_region ?_
 have := h (fun j => by simp) a w (fun e a' w' => ∃ t' H', Ψ e t' H' ∧ R K t' H' a' w') hr (fun t' H' a' w' hn hr' => ⟨t', H', hn, hr'⟩)
 rw [List.range_eq_range']
 simpa using this
end
theorem GN {t : Env} {k : Tmp} {d : T} : Env.ev ((k, d) :: t) (.tmp k) = d := by simp [Env.ev, Env.get]
theorem I2 {t : Env} {j k : Tmp} {d e : T} (h : Nat.beq j k = false) (h' : Env.ev t (.tmp k) = d) : Env.ev ((j, e) :: t) (.tmp k) = d := by
 simpa [Env.ev, Env.get, h] using h'
theorem Ue {t : Env} {k : IntKind} {n : Int} : Env.ev t (.const (.int k n)) = .v (.int k n) := rfl
theorem VB {t : Env} {b : Bool} : Env.ev t (.const (.bool b)) = .v (.bool b) := rfl
theorem Wr {t : Env} {s : ByteArray} : Env.ev t (.const (.string s)) = .v (.string s) := rfl
theorem Ws {t : Env} {p : Option Addr} {n c : Nat} : Env.ev t (.const (.slice p n c)) = .v (.slice p n c) := rfl
theorem Mt {t : Env} {p : Option Addr} : Env.ev t (.const (.pointer p)) = .v (.pointer p) := rfl
theorem Mv {t : Env} {cs : Array Value} : Env.ev t (.const (.agg cs)) = .agg (cs.toList.map T.v) := rfl
theorem Mu {t : Env} {r : Option Nat} : Env.ev t (.const (.map r)) = .v (.map r) := rfl
theorem Vz {t : Env} : Env.ev t (.const .nilFunc) = .v .nilFunc := rfl
theorem Vy {t : Env} : Env.ev t (.const .nilIface) = .v .nilIface := rfl
theorem VA {t : Env} {f : FuncId} : Env.ev t (.func f) = .v (.func (.func f) #[] #[]) := rfl
def EvL (t : Env) : List Operand → List T → Prop
 | [], [] => True
 | x :: xs, d :: ds => t.ev x = d ∧ EvL t xs ds
 | _, _ => False
theorem XE {t : Env} : EvL t [] [] := trivial
theorem QK {t : Env} {x : Operand} {xs : List Operand} {d : T} {ds : List T} (h : t.ev x = d) (hs : EvL t xs ds) : EvL t (x :: xs) (d :: ds) := ⟨h, hs⟩
theorem EvL.eq {t : Env} : ∀ {xs : List Operand} {ds : List T}, EvL t xs ds → xs.map t.ev = ds
 | [], [], _ => rfl
 | x :: xs, d :: ds, h => by rw [List.map_cons, h.1, EvL.eq h.2]
 | [], _ :: _, h => h.elim
 | _ :: _, [], h => h.elim
def EvP (t : Env) : List (Nat × Operand) → List (Nat × T) → Prop
 | [], [] => True
 | p :: ps, q :: qs => p.1 = q.1 ∧ t.ev p.2 = q.2 ∧ EvP t ps qs
 | _, _ => False
theorem BF {t : Env} : EvP t [] [] := trivial
theorem I1 {t : Env} {i : Nat} {x : Operand} {ps : List (Nat × Operand)} {d : T} {qs : List (Nat × T)} (h : t.ev x = d) (hs : EvP t ps qs) : EvP t ((i, x) :: ps) ((i, d) :: qs) := ⟨rfl, h, hs⟩
theorem EvP.eq {t : Env} : ∀ {ps : List (Nat × Operand)} {qs : List (Nat × T)}, EvP t ps qs → (ps.map fun p => (p.1, t.ev p.2)) = qs
 | [], [], _ => rfl
 | p :: ps, q :: qs, h => by rw [List.map_cons, h.2.1, EvP.eq h.2.2, h.1]
 | [], _ :: _, h => h.elim
 | _ :: _, [], h => h.elim
def EvQ (t : Env) : List (Nat × Operand) → List T → Prop
 | [], [] => True
 | p :: ps, d :: ds => t.ev p.2 = d ∧ EvQ t ps ds
 | _, _ => False
theorem BE {t : Env} : EvQ t [] [] := trivial
theorem I0 {t : Env} {i : Nat} {x : Operand} {ps : List (Nat × Operand)} {d : T} {ds : List T} (h : t.ev x = d) (hs : EvQ t ps ds) : EvQ t ((i, x) :: ps) (d :: ds) := ⟨h, hs⟩
theorem EvQ.eq {t : Env} : ∀ {ps : List (Nat × Operand)} {ds : List T}, EvQ t ps ds → (ps.map fun p => t.ev p.2) = ds
 | [], [], _ => rfl
 | p :: ps, d :: ds, h => by rw [List.map_cons, h.1, EvQ.eq h.2]
 | [], _ :: _, h => h.elim
 | _ :: _, [], h => h.elim
theorem IQ {t : Env} {k : Tmp} {d : T} : Env.get ((k, d) :: t) k = d := by simp [Env.get]
theorem OW {t : Env} {j k : Tmp} {d e : T} (h : Nat.beq j k = false) (h' : Env.get t k = d) : Env.get ((j, e) :: t) k = d := by simpa [Env.get, h] using h'
def GOp (P : Program) (ops : Array Oper) (t : Env) (H : Qc) (o : Oper) (d : T) : Prop :=
 match o.guard with
 | none => POp P t H o d
 | some (j, want) => ∃ k gv, (ops[j]?).bind (·.dst) = some k ∧ t.get k = .v gv ∧ (gv = .bool want → POp P t H o d) ∧ (¬ gv = .bool want → d = .v undef)
def R7 (t : Env) : List Oper → List T → Env
 | o :: os, d :: ds => R7 (t.put o.dst d) os ds
 | _, _ => t
def unl (listed : Array Bool) (n : Nat) : Nat := ((List.range n).filter fun j => !listed.getD j true).length
theorem Jt {p p' : Nat → Bool} {i : Nat} : ∀ (l : List Nat), l.Nodup → i ∈ l → p i = true → p' i = false → (∀ j, j ≠ i → p j = p' j) →
  (l.filter p).length = (l.filter p').length + 1
 | [], _, h, _, _, _ => by simp at h
 | a :: l, hn, hm, hp, hp', hs => by
  have hn' := List.nodup_cons.1 hn
  by_cases ha : a = i
  ·subst ha
   have : l.filter p = l.filter p' := List.filter_congr fun j hj => hs j (fun e => hn'.1 (e ▸ hj))
   simp [hp, hp', this]
  ·have hm' : i ∈ l := by simpa [Ne.symm ha] using hm
   have ih := Jt l hn'.2 hm' hp hp' hs
   simp only [List.filter_cons, hs a ha]
   split <;> simp [ih]
theorem LR {listed : Array Bool} {n i : Nat} (hs : listed.size = n) (hi : i < n) (hu : listed.getD i true = false) : unl listed n = unl (listed.setIfInBounds i true) n + 1 := by
 refine Jt _ List.nodup_range (List.mem_range.2 hi) (by rw [hu]; rfl) ?_ (fun j hj => ?_)
 ·simp [hs, hi]
 ·rw [getD_set_ne true (Ne.symm hj)]
section
variable {K : Ctx} {ops : Array Oper} {Q : Exit → Act → World → Prop} {m : Nat}
def BX (P : Program) (ops : Array Oper) (t : Env) (H : Qc) : List Oper → List T → Prop
 | o :: os, d :: ds => GOp P ops t H o d ∧ BX P ops t H os ds
 | _, _ => True
theorem BX.get {P : Program} {ops : Array Oper} {t : Env} {H : Qc} : ∀ {os : List Oper} {ds : List T}, BX P ops t H os ds → ∀ (i : Nat) (o : Oper) (d : T), os[i]? = some o → ds[i]? = some d → GOp P ops t H o d
 | [], _, _, i, o, d, h, _ => by simp at h
 | o' :: os, [], _, i, o, d, _, h => by simp at h
 | o' :: os, d' :: ds, h, 0, o, d, h1, h2 => by simp at h1 h2; subst h1; subst h2; exact h.1
 | o' :: os, d' :: ds, h, i + 1, o, d, h1, h2 => BX.get h.2 i o d (by simpa using h1) (by simpa using h2)
end
end Go.Cap
