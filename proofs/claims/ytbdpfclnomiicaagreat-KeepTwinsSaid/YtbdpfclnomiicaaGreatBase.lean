/-
  The ground of these proofs: data as trees ('T'), memory that never turns again ('S'), blocks that a call owns ('Heap'), and what a call does ('FnH').
-/
import Derived.OrdersIn
import Derived.RangeFuncNested
import Derived.WalkKit
namespace Go.Cap
inductive T where
  | v (x : Value)
  | sl (full : Bool) (xs : List T)
  | adr (x : T)
  | agg (xs : List T)
  | tup (xs : List T)
  | clo (f : FuncId) (fs cs : List T)
  | any
  deriving Inhabited
def T.leaf (x : Value) : T := .v x
def T.ofVal : Value → T
  | .agg cs => .agg (cs.toList.map T.leaf)
  | x => T.leaf x
def T.cells : T → List T
  | .agg xs => xs
  | .v x => x.cells.toList.map T.v
  | .any => []
  | x => [x]
def Seg (cs : List Value) (o k : Nat) (vs : List Value) : Prop :=
  (∀ v ∈ vs, v.cells.size = k) ∧ (cs.drop o).take (vs.length * k) = vs.flatMap (fun v => v.cells.toList)
mutual
inductive Rel (S : Nat → Prop) (w : World) : T → Value → Prop
  | v (x : Value) : Rel S w (.v x) x
  | nil (f : Bool) (p : Option Addr) (c : Nat) (hf : f = true → c = 0) : Rel S w (.sl f []) (.slice p 0 c)
  | sl (f : Bool) (xs : List T) (b o cap : Nat) (vs : List Value) (k : Nat) (cs : Array Value) (ty : TypeId) (fz : Nat × Nat) (hs : S b)
      (hb : w.heap[b]? = some (.cells cs ty fz)) (hr : RelL S w xs vs) (hg : Seg cs.toList o k vs) (hf : f = true → cap = vs.length) (hc : vs.length ≤ cap) :
      Rel S w (.sl f xs) (.slice (some ⟨b, o, none⟩) vs.length cap)
  | adr (x : T) (b o : Nat) (y : Value) (cs : Array Value) (ty : TypeId) (fz : Nat × Nat) (hs : S b)
      (hb : w.heap[b]? = some (.cells cs ty fz)) (hr : Rel S w x y) (hg : (cs.toList.drop o).take y.cells.size = y.cells.toList) :
      Rel S w (.adr x) (.pointer (some ⟨b, o, none⟩))
  | agg (xs : List T) (vs : List Value) (h : RelL S w xs vs) : Rel S w (.agg xs) (.agg vs.toArray)
  | tup (xs : List T) (vs : List Value) (h : RelL S w xs vs) : Rel S w (.tup xs) (.tuple vs.toArray)
  | clo (f : FuncId) (fs cs : List T) (us vs : List Value) (h : RelL S w fs us) (h' : RelL S w cs vs) : Rel S w (.clo f fs cs) (.func (.func f) us.toArray vs.toArray)
  | any (x : Value) : Rel S w .any x
inductive RelL (S : Nat → Prop) (w : World) : List T → List Value → Prop
  | nil : RelL S w [] []
  | cons (x : T) (y : Value) (xs : List T) (ys : List Value) (h : Rel S w x y) (hs : RelL S w xs ys) : RelL S w (x :: xs) (y :: ys)
end
section
variable {S S' : Nat → Prop} {w w' : World}
theorem RelL.length {xs : List T} {ys : List Value} (h : RelL S w xs ys) : ys.length = xs.length := by
  induction xs generalizing ys with
  | nil => cases h; rfl
  | cons x xs ih => cases h with | cons _ y _ ys h hs => simp [ih hs]
theorem RelL.get {xs : List T} {ys : List Value} (h : RelL S w xs ys) {i : Nat} {x : T} (hx : xs[i]? = some x) : ∃ y, ys[i]? = some y ∧ Rel S w x y := by
  induction xs generalizing ys i with
  | nil => simp at hx
  | cons a xs ih =>
    cases h with
    | cons _ y _ ys h hs =>
      cases i with
      | zero => simp at hx; subst hx; exact ⟨y, rfl, h⟩
      | succ i => simpa using ih hs (i := i) (by simpa using hx)
theorem RelL.append {xs xs' : List T} {ys ys' : List Value} (h : RelL S w xs ys) (h' : RelL S w xs' ys') : RelL S w (xs ++ xs') (ys ++ ys') := by
  induction xs generalizing ys with
  | nil => cases h; simpa using h'
  | cons x xs ih => cases h with | cons _ y _ ys h hs => exact .cons _ _ _ _ h (ih hs)
theorem RelL.take {xs : List T} {ys : List Value} (h : RelL S w xs ys) (n : Nat) : RelL S w (xs.take n) (ys.take n) := by
  induction xs generalizing ys n with
  | nil => cases h; simp; exact .nil
  | cons x xs ih => cases h with | cons _ y _ ys h hs => cases n with
    | zero => simp; exact .nil
    | succ n => exact .cons _ _ _ _ h (ih hs n)
theorem RelL.drop {xs : List T} {ys : List Value} (h : RelL S w xs ys) (n : Nat) : RelL S w (xs.drop n) (ys.drop n) := by
  induction xs generalizing ys n with
  | nil => cases h; simp; exact .nil
  | cons x xs ih => cases n with
    | zero => exact h
    | succ n => cases h with | cons _ y _ ys h hs => exact ih hs n
theorem RelL.raw (ys : List Value) : RelL S w (ys.map T.v) ys := by
  induction ys with
  | nil => exact .nil
  | cons y ys ih => exact .cons _ _ _ _ (.v y) ih
theorem Rel.leaf (x : Value) : Rel S w (T.leaf x) x := .v x
theorem RelL.leafs (ys : List Value) : RelL S w (ys.map T.leaf) ys := by
  induction ys with
  | nil => exact .nil
  | cons y ys ih => exact .cons _ _ _ _ (.leaf y) ih
theorem Rel.ofVal (x : Value) : Rel S w (T.ofVal x) x := by
  unfold T.ofVal
  split
  · rename_i cs
    have := Rel.agg (S := S) (w := w) (cs.toList.map T.leaf) cs.toList (.leafs _)
    simpa using this
  · exact .leaf _
theorem Rel.v_eq {x y : Value} (h : Rel S w (.v x) y) : y = x := by cases h; rfl
theorem Rel.cells {x : T} {y : Value} (h : Rel S w x y) (hp : 0 < x.cells.length) : RelL S w x.cells y.cells.toList := by
  cases h with
  | v => exact .raw _
  | nil f p c hf => exact .cons _ _ _ _ (.nil f p c hf) .nil
  | sl f xs b o cap vs k cs ty fz hs hb hr hg hf hc => exact .cons _ _ _ _ (.sl f xs b o cap vs k cs ty fz hs hb hr hg hf hc) .nil
  | adr x b o y cs ty fz hs hb hr hg => exact .cons _ _ _ _ (.adr x b o y cs ty fz hs hb hr hg) .nil
  | agg xs vs h => simpa [T.cells, Value.cells] using h
  | tup xs vs h => exact .cons _ _ _ _ (.tup xs vs h) .nil
  | clo f fs cs us vs h h' => exact .cons _ _ _ _ (.clo f fs cs us vs h h') .nil
  | any x => simp [T.cells] at hp
theorem Rel.size {x : T} {y : Value} (h : Rel S w x y) (hp : 0 < x.cells.length) : y.cells.size = x.cells.length := by
  have := (h.cells hp).length
  simpa using this
mutual
theorem Rel.mono (hm : ∀ b, S b → S' b ∧ w'.heap[b]? = w.heap[b]?) : ∀ {x : T} {y : Value}, Rel S w x y → Rel S' w' x y
  | _, _, .v x => .v x
  | _, _, .nil f p c hf => .nil f p c hf
  | _, _, .sl f xs b o cap vs k cs ty fz hs hb hr hg hf hc => .sl f xs b o cap vs k cs ty fz (hm b hs).1 ((hm b hs).2.trans hb) (RelL.mono hm hr) hg hf hc
  | _, _, .adr x b o y cs ty fz hs hb hr hg => .adr x b o y cs ty fz (hm b hs).1 ((hm b hs).2.trans hb) (Rel.mono hm hr) hg
  | _, _, .agg xs vs h => .agg xs vs (RelL.mono hm h)
  | _, _, .tup xs vs h => .tup xs vs (RelL.mono hm h)
  | _, _, .clo f fs cs us vs h h' => .clo f fs cs us vs (RelL.mono hm h) (RelL.mono hm h')
  | _, _, .any x => .any x
theorem RelL.mono (hm : ∀ b, S b → S' b ∧ w'.heap[b]? = w.heap[b]?) : ∀ {xs : List T} {ys : List Value}, RelL S w xs ys → RelL S' w' xs ys
  | _, _, .nil => .nil
  | _, _, .cons x y xs ys h hs => .cons x y xs ys (Rel.mono hm h) (RelL.mono hm hs)
end
end
def Le (x y : T) : Prop := ∀ (S : Nat → Prop) (w : World) (u : Value), Rel S w x u → Rel S w y u
def LeL (xs ys : List T) : Prop := ∀ (S : Nat → Prop) (w : World) (us : List Value), RelL S w xs us → RelL S w ys us
theorem Le.refl (x : T) : Le x x := fun _ _ _ h => h
theorem Le.of_eq {x y : T} (h : x = y) : Le x y := h ▸ Le.refl x
theorem Le.any (x : T) : Le x .any := fun _ _ u _ => .any u
theorem LeL.refl (x : List T) : LeL x x := fun _ _ _ h => h
theorem LeL.nil : LeL [] [] := LeL.refl []
theorem LeL.cons {x y : T} {xs ys : List T} (h : Le x y) (hs : LeL xs ys) : LeL (x :: xs) (y :: ys) := by
  intro S w us hu
  cases hu with | cons _ u _ us h1 h2 => exact .cons _ _ _ _ (h S w u h1) (hs S w us h2)
theorem Le.agg {xs ys : List T} (h : LeL xs ys) : Le (.agg xs) (.agg ys) := by
  intro S w u hu
  cases hu with | agg _ vs hr => exact .agg _ _ (h S w vs hr)
theorem Le.tup {xs ys : List T} (h : LeL xs ys) : Le (.tup xs) (.tup ys) := by
  intro S w u hu
  cases hu with | tup _ vs hr => exact .tup _ _ (h S w vs hr)
theorem Le.sl {xs ys : List T} {f g : Bool} (h : LeL xs ys) (hg : g = true → f = true) : Le (.sl f xs) (.sl g ys) := by
  intro S w u hu
  cases hu with
  | nil _ p c hf =>
    have := (h S w [] .nil).length
    have : ys = [] := by cases ys <;> simp_all
    subst this; exact .nil g p c fun e => hf (hg e)
  | sl _ _ b o cap vs k cs ty fz hs hb hr hgg hf hc => exact .sl g ys b o cap vs k cs ty fz hs hb (h S w vs hr) hgg (fun e => hf (hg e)) hc
theorem Le.full (xs : List T) (f : Bool) : Le (.sl true xs) (.sl f xs) := Le.sl (LeL.refl _) (fun _ => rfl)
theorem Le.nil (f : Bool) : Le (.v (.slice none 0 0)) (.sl f []) := by
  intro S w u hu
  cases hu; exact .nil f none 0 (fun _ => rfl)
structure Step (F : List Nat) (S : Nat → Prop) (w : World) (S' : Nat → Prop) (w' : World) : Prop where
  os : w'.os = w.os
  tape : w'.tape = w.tape
  output : w'.output = w.output
  size : w.heap.size ≤ w'.heap.size
  keep : ∀ b, b < w.heap.size → b ∉ F → w'.heap[b]? = w.heap[b]?
  sub : ∀ b, S b → S' b
  new : ∀ b, S' b → S b ∨ w.heap.size ≤ b ∨ b ∈ F
  wf : ∀ b, S' b → b < w'.heap.size
def Wf (S : Nat → Prop) (w : World) : Prop := ∀ b, S b → b < w.heap.size
section
variable {F F' : List Nat} {S S' S'' : Nat → Prop} {w w' w'' : World}
theorem Step.refl (F : List Nat) (h : Wf S w) : Step F S w S w := ⟨rfl, rfl, rfl, Nat.le_refl _, fun _ _ _ => rfl, fun _ h => h, fun _ h => .inl h, h⟩
theorem Step.trans (h : Step F S w S' w') (k : Step F' S' w' S'' w'') (hF : ∀ b ∈ F', b ∈ F ∨ w.heap.size ≤ b) : Step F S w S'' w'' :=
  ⟨k.os.trans h.os, k.tape.trans h.tape, k.output.trans h.output, Nat.le_trans h.size k.size,
    fun b hb hn => (k.keep b (Nat.lt_of_lt_of_le hb h.size) (fun hm => (hF b hm).elim hn (fun hge => absurd hb (Nat.not_lt.2 hge)))).trans (h.keep b hb hn),
    fun b hb => k.sub b (h.sub b hb),
    fun b hb => by
      rcases k.new b hb with h1 | h1 | h1
      · exact h.new b h1
      · exact .inr (.inl (Nat.le_trans h.size h1))
      · rcases hF b h1 with h2 | h2
        · exact .inr (.inr h2)
        · exact .inr (.inl h2),
    k.wf⟩
theorem Step.weaken (h : Step F S w S' w') (hF : ∀ b ∈ F, b ∈ F' ∨ w.heap.size ≤ b) : Step F' S w S' w' :=
  ⟨h.os, h.tape, h.output, h.size, fun b hb hn => h.keep b hb (fun hm => (hF b hm).elim hn (fun hge => absurd hb (Nat.not_lt.2 hge))), h.sub,
    fun b hb => (h.new b hb).imp id fun h1 => h1.elim .inl fun h2 => (hF b h2).elim .inr .inl, h.wf⟩
theorem Step.mono (h : Step F S w S' w') (hw : Wf S w) (hd : ∀ b ∈ F, ¬ S b) : ∀ b, S b → S' b ∧ w'.heap[b]? = w.heap[b]? :=
  fun b hb => ⟨h.sub b hb, h.keep b (hw b hb) (fun hm => hd b hm hb)⟩
end
structure Blk where
  ty : TypeId
  cells : List T
  size : Nat
abbrev Heap := List (Nat × Blk)
def Has (S : Nat → Prop) (w : World) (b : Nat) (k : Blk) : Prop :=
  ∃ cs : Array Value, w.heap[b]? = some (.cells cs k.ty (0, 0)) ∧ cs.size = k.size ∧ k.cells.length ≤ k.size ∧ RelL S w k.cells (cs.toList.take k.cells.length)
def keys (H : Heap) : List Nat := H.map (·.1)
structure Own (S : Nat → Prop) (w : World) (H : Heap) : Prop where
  nodup : (keys H).Nodup
  apart : ∀ b ∈ keys H, ¬ S b
  has : ∀ p ∈ H, Has S w p.1 p.2
theorem Has.lt {S : Nat → Prop} {w : World} {b : Nat} {k : Blk} (h : Has S w b k) : b < w.heap.size := by
  obtain ⟨cs, hb, _⟩ := h
  exact (Array.getElem?_eq_some_iff.1 hb).1
theorem Has.mono {S S' : Nat → Prop} {w w' : World} {b : Nat} {k : Blk} (h : Has S w b k) (hb : w'.heap[b]? = w.heap[b]?)
    (hm : ∀ b, S b → S' b ∧ w'.heap[b]? = w.heap[b]?) : Has S' w' b k := by
  obtain ⟨cs, h1, h2, h3, h4⟩ := h
  exact ⟨cs, hb.trans h1, h2, h3, h4.mono hm⟩
theorem Own.lt {S : Nat → Prop} {w : World} {H : Heap} (h : Own S w H) : ∀ b ∈ keys H, b < w.heap.size := by
  intro b hb
  obtain ⟨p, hp, rfl⟩ := List.mem_map.1 hb
  exact (h.has p hp).lt
theorem Own.nil (S : Nat → Prop) (w : World) : Own S w [] := ⟨by simp [keys], by simp [keys], by simp⟩
theorem Own.step {F : List Nat} {S S' : Nat → Prop} {w w' : World} {H : Heap} (h : Own S w H) (hs : Step F S w S' w') (hw : Wf S w) (hF : ∀ b ∈ F, ¬ S b)
    (hd : ∀ b ∈ keys H, b ∉ F) : Own S' w' H :=
  ⟨h.nodup, fun b hb hs' => (hs.new b hs').elim (h.apart b hb) fun h1 => h1.elim (fun h2 => absurd (h.lt b hb) (Nat.not_lt.2 h2)) (hd b hb),
    fun p hp => (h.has p hp).mono (hs.keep _ (h.has p hp).lt (hd _ (List.mem_map.2 ⟨p, hp, rfl⟩))) (hs.mono hw hF)⟩
def FnH (P : Program) (f : FuncId) (args : List T) (H : Heap) (Φ : T → Heap → Prop) : Prop :=
  ∀ (S : Nat → Prop) (w : World) (vs : List Value), Wf S w → Own S w H → RelL S w args vs →
    Calls P f vs.toArray w fun e w' => ∃ u S' r H', e = .returned u ∧ Φ r H' ∧ Rel S' w' r u ∧ Own S' w' H' ∧ Step (keys H) S w S' w' ∧
      ∀ b ∈ keys H', b ∈ keys H ∨ w.heap.size ≤ b
def FnP (P : Program) (f : FuncId) (args : List T) (Φ : T → Prop) : Prop := FnH P f args [] fun r H => H = [] ∧ Φ r
end Go.Cap
