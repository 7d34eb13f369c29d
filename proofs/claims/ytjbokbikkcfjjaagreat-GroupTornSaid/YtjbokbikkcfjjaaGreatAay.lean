/-
  What is read of memory ahead of a call, as data.
-/
import Derived.Test.YtjbokbikkcfjjaaGreatAae
import Derived.Deep.Slices
import Derived.ProofKit
set_option maxRecDepth 16000
set_option maxHeartbeats 8000000
set_option linter.all false
namespace Go.Cap
open Go.ChangeShapes Go.WideShapes Go.Deep
def below (w : World) : Nat → Prop := fun b => b < w.heap.size
section
variable {H : Type} {enc : TypeId × Value → H} {P : Program} {w : World} {t e : TypeId}
def Dec (enc : TypeId × Value → H) (P : Program) (w : World) (t : TypeId) {α : Type} (f : α → List T) (ok : α → Prop) : Prop :=
 ∀ fuel cs x, DataW.trod enc P w 0 (fun _ => true) true fuel t cs = some x → ∃ a, Qr (below w) w (f a) cs ∧ ok a
theorem BJ {k : IntKind} (ht : P.underlying t = some (.int k)) : Dec enc P w t (fun n : Int => [T.v (.int k n)]) (fun n => (Lit.int k n).wf = true) := by
 intro fuel cs x h
 obtain ⟨n, rfl, _, hw⟩ := DataW.trod_int ht h
 exact ⟨n, .cons _ _ _ _ (.v _) .nil, hw⟩
theorem Dec.map {α β : Type} {f : α → List T} {ok : α → Prop} {g : β → List T} {ok' : β → Prop} (h : Dec enc P w t f ok) (m : α → β) (hf : ∀ a, g (m a) = f a) (hi : ∀ a, ok a → ok' (m a)) : Dec enc P w t g ok' := fun fuel cs x hx =>
 let ⟨a, h1, h2⟩ := h fuel cs x hx
 ⟨m a, by rw [hf]; exact h1, hi a h2⟩
def Whole {α : Type} (f : α → List T) (g : α → T) : Prop := ∀ a, (g a = .agg (f a)) ∨ (f a = [g a] ∧ (g a).isLeaf = true)
theorem G1 {α : Type} {f : α → List T} {g : α → T} (hw : Whole f g) {a : α} {S : Nat → Prop} {cs : List Value} (h : Qr S w (f a) cs) : ∃ v, Rel S w (g a) v ∧ v.cells.toList = cs := by
 rcases hw a with h1 | ⟨h1, h2⟩
 ·exact ⟨.agg cs.toArray, by rw [h1]; exact .agg _ _ h, by simp [Value.cells]⟩
 ·rw [h1] at h
  cases h with
  | cons _ y _ ys h3 h4 =>
   cases h4
   exact ⟨y, h3, by rw [(h3.leaf_cells h2).1]⟩
theorem Ri {a : Addr} {k n : Nat} (hk : 0 < k) (hn : 0 < n) {cs' : Nat → List Value} (h : ∀ i, i < n → w.cells? 0 (a.add (i * k)) k = some (cs' i)) :
  ∃ cs ty fz, w.heap[a.block]? = some (.cells cs ty fz) ∧ a.spot = none ∧ ∀ i, i < n → (cs.toList.drop (a.off + i * k)).take k = cs' i := by
 have h0 := h 0 hn
 obtain ⟨_, hl0, hc0⟩ := World.cells?_some h0
 have hc := hc0 0 hk
 rw [Nat.zero_mul] at hc
 have he : (a.add 0).add 0 = a := by simp [Addr.add]
 rw [he] at hc
 obtain ⟨v0, hv0⟩ : ∃ v, (cs' 0)[0]? = some v := ⟨(cs' 0)[0]'(by omega), by simp [hl0, hk]⟩
 rw [hv0] at hc
 have key := hc
 unfold World.cell? at key
 cases hb : w.heap[a.block]? with
 | none => rw [hb] at key; simp at key
 | some o =>
  rw [hb] at key
  cases o with
  | cells cs ty fz =>
   simp only at key
   have hsp : a.spot = none := by
    cases hs : a.spot with
    | none => rfl
    | some s => rw [hs] at key; simp at key
   refine ⟨cs, ty, fz, rfl, hsp, fun i hi => ?_⟩
   obtain ⟨_, hl, hci⟩ := World.cells?_some (h i hi)
   refine List.ext_getElem? fun j => ?_
   rw [List.getElem?_take]
   split
   ·rename_i hj
    rw [List.getElem?_drop, ← hci j hj]
    have e2 : ((a.add (i * k)).add j) = ⟨a.block, a.off + i * k + j, none⟩ := by
     obtain ⟨ab, ao, asp⟩ := a
     simp only at hsp
     subst hsp
     rw [Addr.add_mk, Addr.add_mk]
    rw [e2, YK hb]
    simp
   ·rename_i hj
    rw [List.getElem?_eq_none (by omega)]
  | _ => simp at key
theorem Rc {α : Type} {f : α → List T} {g : α → T} {ok : α → Prop} {k : Nat} (ht : P.underlying t = some (.slice e)) (hk : P.cellsOf e = k) (hk0 : 0 < k) (he : Dec enc P w e f ok) (hw : Whole f g) :
  Dec enc P w t (fun l : List α => [T.sl false (l.map g)]) (fun l => l.length ≤ maxLen ∧ ∀ a ∈ l, ok a) := by
 intro fuel cs x h
 subst hk
 rcases open_slice ht h with ⟨rfl, _⟩ | ⟨a, len, cap, m, n, D, Pl, rfl, _, hl, hm, hmm, _, hx⟩
 ·exact ⟨[], .cons _ _ _ _ (.nil _ _ _ (by simp)) .nil, Nat.zero_le _, by simp⟩
 have hmc : m = cap := by simpa using hmm
 subst hmc
 rcases Nat.eq_zero_or_pos len with h0 | h0
 ·subst h0
  exact ⟨[], .cons _ _ _ _ (.nil _ _ _ (by simp)) .nil, Nat.zero_le _, by simp⟩
 have hex : ∀ i, ∃ cs' : List Value, i < len → w.cells? 0 (a.add (i * P.cellsOf e)) (P.cellsOf e) = some cs' ∧ ∃ b, Qr (below w) w (f b) cs' ∧ ok b := fun i => by
  by_cases hi : i < len
  ·obtain ⟨cs', h1, h2⟩ := hx i (by omega)
   exact ⟨cs', fun _ => ⟨h1, he _ _ _ h2⟩⟩
  ·exact ⟨[], fun h => absurd h hi⟩
 obtain ⟨C, hC⟩ := Classical.axiomOfChoice hex
 obtain ⟨cs, ty, fz, hb, hsp, hrow⟩ := Ri hk0 h0 (fun i hi => (hC i hi).1)
 have build : ∀ n, n ≤ len → ∃ (l : List α) (vs : List Value), l.length = n ∧ Qr (below w) w (l.map g) vs ∧ (∀ v ∈ vs, v.cells.size = P.cellsOf e) ∧ (∀ a ∈ l, ok a) ∧ (cs.toList.drop a.off).take (n * P.cellsOf e) = vs.flatMap fun v => v.cells.toList := by
  intro n
  induction n with
  | zero => intro _; exact ⟨[], [], rfl, .nil, by simp, by simp, by simp⟩
  | succ n ih =>
   intro hn
   obtain ⟨l, vs, h1, h2, h3, h4, h5⟩ := ih (by omega)
   obtain ⟨hc1, b, hb1, hb2⟩ := hC n (by omega)
   obtain ⟨v, hv, hvc⟩ := G1 hw hb1
   have hlen : (C n).length = P.cellsOf e := (World.cells?_some hc1).2.1
   refine ⟨l ++ [b], vs ++ [v], by simp [h1], by rw [List.map_append]; exact h2.append (.cons _ _ _ _ hv .nil), fun u hu => ?_, fun u hu => ?_, ?_⟩
   ·rcases List.mem_append.1 hu with hu | hu
    ·exact h3 u hu
    ·simp at hu; subst hu
     have := congrArg List.length hvc
     simpa [hlen] using this
   ·rcases List.mem_append.1 hu with hu | hu
    ·exact h4 u hu
    ·simp at hu; subst hu; exact hb2
   ·rw [List.flatMap_append, ← h5, Nat.succ_mul, List.take_add, List.drop_drop, hrow n (by omega)]
    simp [hvc]
 obtain ⟨l, vs, h1, h2, h3, h4, h5⟩ := build len (Nat.le_refl _)
 have hvl : vs.length = len := by have := h2.length; rw [this, List.length_map, h1]
 refine ⟨l, .cons _ _ _ _ ?_ .nil, by omega, h4⟩
 obtain ⟨ab, ao, asp⟩ := a
 simp only at hsp hb h5
 subst hsp
 rw [← hvl]
 exact .sl false _ ab ao m vs (P.cellsOf e) cs ty fz ((Array.getElem?_eq_some_iff.1 hb).1) hb h2 ⟨h3, by rw [hvl]; exact h5⟩ (by simp) (by omega)
theorem Dec.val {α : Type} {f : α → List T} {ok : α → Prop} (h : Dec enc P w t f ok) {v : Value} {d : DataW H} {ps : List MemPlace} (hd : DataW.Trod enc P w 0 (fun _ => true) true t v d ps) : ∃ a, Qr (below w) w (f a) v.cells.toList ∧ ok a := by
 obtain ⟨fuel, hf⟩ := hd
 exact h _ _ _ hf
theorem CH {S : Nat → Prop} {x : T} {v : Value} (h : Qr S w [x] v.cells.toList) (hv : v.oneCell' = true) : Rel S w x v := by
 cases v <;> simp_all [Value.oneCell', Value.cells] <;> (cases h with | cons _ _ _ _ h _ => exact h)
theorem Ob {r : Reach} {b0 : Nat} {v : Value} (ht : P.underlying t = some (.slice e)) (h : Value.okWide P w r b0 t v) : v.oneCell' = true := by
 cases v <;> simp_all [Value.okWide, Cell.okWide, Cell.ok, Value.oneCell']
theorem U7 {α : Type} {g : α → T} {ok : List α → Prop} {r : Reach} {b0 : Nat} {v : Value} {d : DataW H} {ps : List MemPlace} (ht : P.underlying t = some (.slice e)) (hval : Value.okWide P w r b0 t v) (hd : DataW.Trod enc P w 0 (fun _ => true) true t v d ps)
  (h : Dec enc P w t (fun l : List α => [T.sl false (l.map g)]) ok) : ∃ l : List α, Rel (below w) w (.sl false (l.map g)) v ∧ ok l := by
 obtain ⟨l, h1, h2⟩ := h.val hd
 exact ⟨l, CH h1 (Ob ht hval), h2⟩
theorem U1 : maxLen = 9223372036854775807 := rfl
end
end Go.Cap
