/-
  The forms in which the walks use the rules: loops by lists of slots, regions in any order by their slots.
-/
import Derived.Test.YtbdpfclnomiicaaGreatStr
namespace Go.Cap

/-- Some of the blocks, in their order, no more said of each. -/
inductive HeapFront : Heap → Heap → Prop
  | nil (H : Heap) : HeapFront H []
  | keep (b : Nat) (k k' : Blk) (r r' : Heap) (h : BlkLe k k') (hs : HeapFront r r') : HeapFront ((b, k) :: r) ((b, k') :: r')
  | skip (p : Nat × Blk) (r r' : Heap) (hs : HeapFront r r') : HeapFront (p :: r) r'
theorem HeapFront.le {H H' : Heap} (h : HeapFront H H') (hn : (keys H).Nodup) : HeapLe H H' := by
  induction h with
  | nil H => exact HeapLe.nil _
  | keep b k k' r r' hk hr ih =>
    have hn' := List.nodup_cons.1 (show (b :: keys r).Nodup from hn)
    have ih := ih hn'.2
    refine ⟨?_, ?_⟩
    · show (b :: keys r').Nodup
      exact List.nodup_cons.2 ⟨fun hm => hn'.1 (ih.sub b hm), ih.1⟩
    · intro p hp
      rcases List.mem_cons.1 hp with rfl | hp
      · exact ⟨k, List.mem_cons_self, hk⟩
      · obtain ⟨k2, h1, h2⟩ := ih.2 p hp
        exact ⟨k2, List.mem_cons_of_mem _ h1, h2⟩
  | skip p r r' hr ih =>
    have hn' := List.nodup_cons.1 (show (p.1 :: keys r).Nodup from hn)
    have ih := ih hn'.2
    refine ⟨ih.1, fun q hq => ?_⟩
    obtain ⟨k2, h1, h2⟩ := ih.2 q hq
    exact ⟨k2, List.mem_cons_of_mem _ h1, h2⟩

/-- A block among the blocks; one in the place of another; one taken away. -/
def HRep (H : Heap) (p p' : Nat × Blk) (H' : Heap) : Prop := ∃ i, H[i]? = some p ∧ H' = H.set i p'
def HDel (H : Heap) (p : Nat × Blk) (H' : Heap) : Prop := ∃ i, H[i]? = some p ∧ H' = H.eraseIdx i
theorem hrep_here {p p' : Nat × Blk} {r : Heap} : HRep (p :: r) p p' (p' :: r) := ⟨0, rfl, rfl⟩
theorem hrep_there {p p' q : Nat × Blk} {r r' : Heap} (h : HRep r p p' r') : HRep (q :: r) p p' (q :: r') := by
  obtain ⟨i, h1, h2⟩ := h
  exact ⟨i + 1, by simpa using h1, by rw [h2]; rfl⟩
theorem hdel_here {p : Nat × Blk} {r : Heap} : HDel (p :: r) p r := ⟨0, rfl, rfl⟩
theorem hdel_there {p q : Nat × Blk} {r r' : Heap} (h : HDel r p r') : HDel (q :: r) p (q :: r') := by
  obtain ⟨i, h1, h2⟩ := h
  exact ⟨i + 1, by simpa using h1, by rw [h2]; rfl⟩
theorem hmem_here {p : Nat × Blk} {r : Heap} : p ∈ p :: r := List.mem_cons_self
theorem hmem_there {p q : Nat × Blk} {r : Heap} (h : p ∈ r) : p ∈ q :: r := List.mem_cons_of_mem _ h
theorem eZ {t : Env} {k : Tmp} {d : T} : Env.ev ((k, d) :: t) (.tmp k) = d := ev_here
theorem eS {t : Env} {j k : Tmp} {d e : T} (h : Nat.beq j k = false) (h' : Env.ev t (.tmp k) = d) : Env.ev ((j, e) :: t) (.tmp k) = d := ev_there h h'
theorem gZ {t : Env} {k : Tmp} {d : T} : Env.get ((k, d) :: t) k = d := get_here
theorem gS {t : Env} {j k : Tmp} {d e : T} (h : Nat.beq j k = false) (h' : Env.get t k = d) : Env.get ((j, e) :: t) k = d := get_there h h'
theorem hZ {p : Nat × Blk} {r : Heap} : p ∈ p :: r := hmem_here
theorem hS {p q : Nat × Blk} {r : Heap} (h : p ∈ r) : p ∈ q :: r := hmem_there h
theorem rZ {p p' : Nat × Blk} {r : Heap} : HRep (p :: r) p p' (p' :: r) := hrep_here
theorem rS {p p' q : Nat × Blk} {r r' : Heap} (h : HRep r p p' r') : HRep (q :: r) p p' (q :: r') := hrep_there h
theorem hA {A r : Heap} {p : Nat × Blk} (h : p ∈ r) : p ∈ A ++ r := List.mem_append_right _ h
theorem hrep_left {p p' : Nat × Blk} {r r' : Heap} (h : HRep r p p' r') : ∀ A : Heap, HRep (A ++ r) p p' (A ++ r')
  | [] => h
  | _ :: A => hrep_there (hrep_left h A)
theorem rA {A r r' : Heap} {p p' : Nat × Blk} (h : HRep r p p' r') : HRep (A ++ r) p p' (A ++ r') := hrep_left h A
theorem dZ {p : Nat × Blk} {r : Heap} : HDel (p :: r) p r := hdel_here
theorem dS {p q : Nat × Blk} {r r' : Heap} (h : HDel r p r') : HDel (q :: r) p (q :: r') := hdel_there h
/-- Cells laid into cells that are written out; cells read there. -/
inductive LayR : List T → Nat → List T → List T → Prop
  | nil (cs : List T) : LayR cs 0 [] cs
  | cons (c : T) (cs : List T) (d : T) (ds r : List T) (h : LayR cs 0 ds r) : LayR (c :: cs) 0 (d :: ds) (d :: r)
  | skip (c : T) (cs : List T) (o : Nat) (ds r : List T) (h : LayR cs o ds r) : LayR (c :: cs) (o + 1) ds (c :: r)
theorem LayR.eq {cs : List T} {o : Nat} {ds r : List T} (h : LayR cs o ds r) : lay cs o ds = r ∧ o + ds.length ≤ cs.length := by
  induction h with
  | nil cs => exact ⟨by simp [lay], by simp⟩
  | cons c cs d ds r h ih =>
    refine ⟨?_, by have := ih.2; simp at this ⊢; omega⟩
    rw [← ih.1]; simp [lay]
  | skip c cs o ds r h ih =>
    refine ⟨?_, by have := ih.2; simp at this ⊢; omega⟩
    rw [← ih.1]; simp [lay, show o + 1 + ds.length = (o + ds.length) + 1 by omega]
inductive TakeR : List T → Nat → Nat → List T → Prop
  | nil (cs : List T) : TakeR cs 0 0 []
  | cons (c : T) (cs : List T) (n : Nat) (r : List T) (h : TakeR cs 0 n r) : TakeR (c :: cs) 0 (n + 1) (c :: r)
  | skip (c : T) (cs : List T) (o n : Nat) (r : List T) (h : TakeR cs o n r) : TakeR (c :: cs) (o + 1) n r
theorem TakeR.eq {cs : List T} {o n : Nat} {r : List T} (h : TakeR cs o n r) : (cs.drop o).take n = r ∧ o + n ≤ cs.length := by
  induction h with
  | nil cs => exact ⟨by simp, by simp⟩
  | cons c cs n r h ih => exact ⟨by have := ih.1; simp at this ⊢; exact this, by have := ih.2; simp at this ⊢; omega⟩
  | skip c cs o n r h ih => exact ⟨by have := ih.1; simpa using this, by have := ih.2; simp at this ⊢; omega⟩

section
variable {K : Ctx} {t : Env} {H : Heap} {Ψ : Exit → Env → Heap → Prop} {N : Env → Heap → Prop} {P : Program} {ops : Array Oper}

theorem sim_to {c : Code} (t' : Env) (H' : Heap) (ht : EnvLe t t') (hH : HeapFront H H') (h : Sim K c t' H' Ψ) : Sim K c t H Ψ := sim_weaken ht hH.le h

def cutΨ (t' : Env) (H' : Heap) (Ψ : Exit → Env → Heap → Prop) : Exit → Env → Heap → Prop
  | .normal, t, H => EnvLe t t' ∧ HeapFront H H'
  | e, t, H => Ψ e t H
/-- Where two ways meet: what is known of both. -/
theorem sim_cut {c r : Code} (t' : Env) (H' : Heap) (h : Sim K c t H (cutΨ t' H' Ψ)) (h' : Sim K r t' H' Ψ) : Sim K c t H (thenΨ K r Ψ) :=
  sim_mono h (fun e t1 H1 hc => by
    cases e with
    | normal => exact sim_to t' H' hc.1 hc.2 h'
    | _ => exact hc)
theorem cutΨ_ret {t' : Env} {H' : Heap} : cutΨ t' H' Ψ .ret t H = Ψ .ret t H := rfl

def loopL {σ : Type} (ok : σ → Prop) (env : σ → Env) (heap : σ → Heap) (μ : σ → Nat) (s : σ) (Ψ : Exit → Env → Heap → Prop) : Exit → Env → Heap → Prop
  | .normal, t, H => ∃ s', ok s' ∧ μ s' < μ s ∧ EnvLe t (env s') ∧ HeapFront H (heap s')
  | e, t, H => Ψ e t H
/-- A loop, by what its slots and blocks hold at its head. -/
theorem sim_loopL {σ : Type} {c : Code} (ok : σ → Prop) (env : σ → Env) (heap : σ → Heap) (μ : σ → Nat) (s0 : σ) (h0 : ok s0) (he : EnvLe t (env s0)) (hh : HeapFront H (heap s0))
    (round : ∀ s, ok s → Sim K c (env s) (heap s) (loopL ok env heap μ s Ψ)) : Sim K (.loop c) t H Ψ := by
  refine sim_loop (σ := σ) (fun s t H => ok s ∧ EnvLe t (env s) ∧ HeapFront H (heap s)) μ s0 ⟨h0, he, hh⟩ ?_
  rintro s t H ⟨h1, h2, h3⟩
  refine sim_to _ _ h2 h3 (sim_mono (round s h1) ?_)
  intro e t' H' h
  cases e with
  | normal => obtain ⟨s', a, b, c, d⟩ := h; exact ⟨s', b, a, c, d⟩
  | _ => exact h

/-- A region in any order, walked in the order of the text: operation by operation, each by what its operands hold. -/
def GSeq (P : Program) (ops : Array Oper) (H : Heap) : Env → List Oper → List T → Prop
  | t, o :: os, d :: ds => GOp P ops t H o d ∧ GSeq P ops H (t.put o.dst d) os ds
  | _, [], [] => True
  | _, _, _ => False
def DrawFrom (K : Ctx) (ops : Array Oper) (i n : Nat) (l : List Oper) (t : Env) (H : Heap) (N : Env → Heap → Prop) : Prop :=
  ∃ ds, ds.length = n ∧ GSeq K.P ops H t (l.take n) ds ∧ SimFrom K ops (i + n) (l.drop n) (putAll t (l.take n) ds) H N
theorem draw_end {i : Nat} {l : List Oper} (h : SimFrom K ops i l t H N) : DrawFrom K ops i 0 l t H N := ⟨[], rfl, trivial, h⟩
theorem draw_put {i n : Nat} {l : List Oper} {o : Oper} {d : T} (hg : GOp K.P ops t H o d) (h : DrawFrom K ops (i + 1) n l (t.put o.dst d) H N) : DrawFrom K ops i (n + 1) (o :: l) t H N := by
  obtain ⟨ds, h1, h2, h3⟩ := h
  refine ⟨d :: ds, by simp [h1], ⟨hg, h2⟩, ?_⟩
  have e : i + (n + 1) = i + 1 + n := by omega
  rw [e]; exact h3
theorem draw_s {i n : Nat} {l : List Oper} {op : Op} {tp : TypeId} {pos : String} {aft : Array Edge} {k : Tmp} {d : T} (hp : POp K.P t H ⟨some k, op, tp, pos, aft, none⟩ d)
    (h : DrawFrom K ops (i + 1) n l ((k, d) :: t) H N) : DrawFrom K ops i (n + 1) (⟨some k, op, tp, pos, aft, none⟩ :: l) t H N := draw_put (d := d) hp h
/-- ... a guarded one. -/
theorem draw_g {i n : Nat} {l : List Oper} {op : Op} {tp : TypeId} {pos : String} {aft : Array Edge} {k : Tmp} {d e : T} {j kg : Nat} {want : Bool} {gv : Value} (hj : (ops[j]?).bind (·.dst) = some kg) (hb : t.get kg = .v gv)
    (hp : gv = .bool want → POp K.P t H ⟨some k, op, tp, pos, aft, some (j, want)⟩ d) (he : gv = .bool want → e = d) (hn : ¬ gv = .bool want → e = .v undef)
    (h : DrawFrom K ops (i + 1) n l ((k, e) :: t) H N) : DrawFrom K ops i (n + 1) (⟨some k, op, tp, pos, aft, some (j, want)⟩ :: l) t H N :=
  draw_put (d := e) ⟨kg, gv, hj, hb, fun hw => by rw [he hw]; exact hp hw, hn⟩ h
theorem POp.congr {t t' : Env} {o : Oper} {d : T} (h : POp P t H o d) (he : ∀ x ∈ o.op.operands, t.ev x = t'.ev x) : POp P t' H o d :=
  fun S w a hw ho hx Kc Q hk => h S w a hw ho (fun x hxo => by rw [he x hxo]; exact hx x hxo) Kc Q hk
theorem GOp.congr {t t' : Env} {o : Oper} {d : T} (h : GOp P ops t H o d) (he : ∀ k ∈ o.looksAt ops, t.get k = t'.get k) : GOp P ops t' H o d := by
  have hev : ∀ x ∈ o.op.operands, t.ev x = t'.ev x := by
    intro x hx
    cases x with
    | tmp k => exact he k (List.mem_append_left _ (List.mem_filterMap.2 ⟨.tmp k, by simpa using hx, rfl⟩))
    | _ => rfl
  unfold GOp at *
  cases hg : o.guard with
  | none => rw [hg] at h; exact POp.congr h hev
  | some jw =>
    obtain ⟨j, want⟩ := jw
    rw [hg] at h
    obtain ⟨k, b, h1, h2, h3, h4⟩ := h
    exact ⟨k, b, h1, by rw [← he k (by unfold Oper.looksAt; rw [hg]; simp [h1])]; exact h2, fun e => POp.congr (h3 e) hev, h4⟩
theorem gseq_all {m n : Nat} (hc : DrawOk ops m n) : ∀ (os : List Oper) (ds : List T) (t : Env) (i : Nat), GSeq P ops H t os ds → (∀ j o, os[j]? = some o → ops[i + j]? = some o ∧ i + j < m) →
    AllG P ops (putAll t os ds) H os ds
  | [], ds, _, _, _, _ => by cases ds <;> exact trivial
  | o :: os, [], _, _, h, _ => h.elim
  | o :: os, d :: ds, t, i, h, hl => by
    have h0 := hl 0 o rfl
    have rest : ∀ j p, os[j]? = some p → ops[i + 1 + j]? = some p ∧ i + 1 + j < m := fun j p hp => by
      have := hl (j + 1) p (by simpa using hp)
      rw [show i + 1 + j = i + (j + 1) by omega]; exact this
    refine ⟨GOp.congr h.1 fun k hk => ?_, gseq_all hc os ds _ (i + 1) h.2 rest⟩
    show t.get k = (putAll (t.put o.dst d) os ds).get k
    have hne : ∀ j p, i ≤ j → ops[j]? = some p → j < m → p.dst ≠ some k := by
      intro j p hij hp hj e
      obtain ⟨k', hk', _, hself, hoth⟩ := hc.dst j p hp hj
      rw [e] at hk'; cases hk'
      by_cases hji : j = i
      · subst hji
        have := h0.1
        simp only [Nat.add_zero] at this
        rw [this] at hp; cases hp
        exact hself hk
      · obtain ⟨e1, he1, hb, hon⟩ := (hoth i o (by simpa using h0.1) (by simpa using h0.2) (fun e => hji e.symm)).2 hk
        have := hc.back i o (by simpa using h0.1) e1 he1 hb
        omega
    rw [putAll_none os ds _ (fun p hp => by
      obtain ⟨j, hj⟩ := List.mem_iff_getElem?.1 hp
      have := rest j p hj
      exact hne (i + 1 + j) p (by omega) this.1 this.2)]
    have h1 : o.dst ≠ some k := hne i o (Nat.le_refl _) (by simpa using h0.1) (by simpa using h0.2)
    cases ho : o.dst with
    | none => rfl
    | some j => exact (Env.get_put_ne t d (fun e => h1 (by rw [ho, e]))).symm
/-- A REGION IN WHATEVER ORDER. -/
theorem sim_rdraw {id : Nat} (m : Nat) (hmix : K.P.follows .mixedOrders = true) (hm : Nat.ble m ops.size = true)
    (hc : drawOk ops m K.n = true) (h : DrawFrom K ops 0 m ops.toList t H (Ψ .normal)) : Sim K (.region id ops true) t H Ψ := by
  obtain ⟨ds, h1, h2, h3⟩ := h
  rw [Nat.zero_add] at h3
  refine sim_drawn ds m hmix hm hc (by simp [h1]) (gseq_all (DrawOk.of hc) _ ds t 0 h2 fun j o hj => ?_) h3
  rw [List.getElem?_take] at hj
  split at hj
  · exact ⟨by simpa using hj, by omega⟩
  · cases hj
theorem then_go {K : Ctx} {c : Code} (h : Sim K c t H Ψ) : thenΨ K c Ψ .normal t H := h

@[simp] theorem lay_len {α : Type} (l : List α) (o : Nat) (xs : List α) : (lay l o xs).length = min o l.length + xs.length + (l.length - (o + xs.length)) := by simp [lay]; omega
theorem LeL.map {α : Type} (f g : α → T) (h : ∀ x, Le (f x) (g x)) (l : List α) : LeL (l.map f) (l.map g) := by
  induction l with
  | nil => exact LeL.nil
  | cons x l ih => exact LeL.cons (h x) ih
theorem LeL.append {a b c d : List T} (h : LeL a b) (h' : LeL c d) : LeL (a ++ c) (b ++ d) := by
  intro S w us hu
  have h1 := hu.take a.length
  have h2 := hu.drop a.length
  rw [List.take_left] at h1
  rw [List.drop_left] at h2
  have := (h S w _ h1).append (h' S w _ h2)
  rwa [List.take_append_drop] at this
theorem lay_whole {α : Type} (l xs : List α) (h : l.length = xs.length) : lay l 0 xs = xs := by simp [lay, h]
theorem flat_map1 {α : Type} (f : α → T) (h : ∀ y, (f y).cells = [f y]) (l : List α) : (l.map f).flatMap T.cells = l.map f := by
  induction l with
  | nil => rfl
  | cons x l ih => rw [List.map_cons, List.flatMap_cons, h, ih]; rfl
/-- Cells done, and to be done: one more is done. -/
theorem lay_next (a : List T) (z x : List T) (n : Nat) (h : x.length = z.length) : lay (a ++ (List.replicate (n + 1) z).flatten) a.length x = (a ++ x) ++ (List.replicate n z).flatten := by
  unfold lay
  rw [List.take_left, List.replicate_succ, List.flatten_cons, ← List.drop_drop, List.drop_left, h, List.drop_left]
theorem le_get {t : Env} {k : Nat} {e d : T} (h : t.get k = e) (h' : Le e d) : Le (t.get k) d := h ▸ h'
theorem blk_eq {ty ty' : TypeId} {cs cs' : List T} {n n' : Nat} (h1 : ty = ty') (h2 : cs = cs') (h3 : n = n') : BlkLe ⟨ty, cs, n⟩ ⟨ty', cs', n'⟩ := by
  subst h1; subst h2; subst h3; exact BlkLe.refl _
theorem blk_le {ty ty' : TypeId} {cs cs' : List T} {n n' : Nat} (h1 : ty = ty') (h2 : LeL cs cs') (hl : cs'.length = cs.length) (h3 : n = n') : BlkLe ⟨ty, cs, n⟩ ⟨ty', cs', n'⟩ := by
  subst h1; subst h3; exact BlkLe.cells hl h2
theorem map_get {α : Type} {f : α → T} {l : List α} {i : Nat} (h : i < l.length) : (l.map f)[(i : Int).toNat]? = some (f (l[i]'h)) := by simp [h]

theorem FnP.weaken {f : FuncId} {args : List T} {d d' : T} (h : FnP P f args (fun r => r = d)) (hl : Le d d') : FnP P f args (fun r => r = d') := by
  intro S w vs hw ho hr
  refine (h S w vs hw ho hr).mono ?_
  rintro e w' ⟨u, S', r, H', he, ⟨h1, rfl⟩, h2, h3, h4, h5⟩
  exact ⟨u, S', d', H', he, ⟨h1, rfl⟩, hl _ _ _ h2, h3, h4, h5⟩
theorem ret_block {id : Nat} (h : Ψ .ret t H) : blockΨ id Ψ .ret t H := h
theorem ret_then {K : Ctx} {c : Code} (h : Ψ .ret t H) : thenΨ K c Ψ .ret t H := h
theorem ret_loop {σ : Type} {ok : σ → Prop} {env : σ → Env} {heap : σ → Heap} {μ : σ → Nat} {s : σ} (h : Ψ .ret t H) : loopL ok env heap μ s Ψ .ret t H := h
theorem blockΨ_ret {id : Nat} : blockΨ id Ψ .ret t H = Ψ .ret t H := rfl
theorem thenΨ_ret {K : Ctx} {c : Code} : thenΨ K c Ψ .ret t H = Ψ .ret t H := rfl
theorem loopL_ret {σ : Type} {ok : σ → Prop} {env : σ → Env} {heap : σ → Heap} {μ : σ → Nat} {s : σ} : loopL ok env heap μ s Ψ .ret t H = Ψ .ret t H := rfl
/-- At a function's end. -/
theorem resl_nil : ResL P t H [] [] := trivial
theorem resl_tmp {k : Tmp} {rs : List ResultVar} {d : T} {ds : List T} (h : t.get k = d) (hs : ResL P t H rs ds) : ResL P t H (.tmp k :: rs) (d :: ds) := ⟨h, hs⟩
theorem resl_cell {k : Tmp} {ty : TypeId} {rs : List ResultVar} {ds : List T} {b : Nat} {blk : Blk} (i n : Nat) (cs : List T) (ha : aggSz P ty = some n) (h : t.get k = .v (.pointer (some ⟨b, 0, none⟩))) (hi : H[i]? = some (b, blk))
    (hn : Nat.ble n blk.cells.length = true) (hc : blk.cells.take n = cs) (hs : ResL P t H rs ds) : ResL P t H (.cell k ty :: rs) (.agg cs :: ds) :=
  ⟨⟨i, b, blk, h, hi, .inl ⟨n, ha, Nat.le_of_ble_eq_true hn, by rw [hc]⟩⟩, hs⟩
theorem resl_cell1 {k : Tmp} {ty : TypeId} {rs : List ResultVar} {ds : List T} {b : Nat} {blk : Blk} {d : T} (i : Nat) (hl : leafTy P ty = true) (h : t.get k = .v (.pointer (some ⟨b, 0, none⟩))) (hi : H[i]? = some (b, blk))
    (hc : blk.cells[0]? = some d) (hs : ResL P t H rs ds) : ResL P t H (.cell k ty :: rs) (d :: ds) :=
  ⟨⟨i, b, blk, h, hi, .inr ⟨hl, hc⟩⟩, hs⟩
theorem fin_ret {fn : Func} {rs : List ResultVar} {ds : List T} {d : T} (hr : fn.results.toList = rs) (h : ResL P t H rs ds) (hl : Le (packT ds) d) :
    endΨ P fn (fun r H => H = [] ∧ r = d) .ret t H := ⟨ds, d, [], by rw [hr]; exact h, hl, ⟨rfl, rfl⟩, fun _ => HeapLe.nil _⟩
theorem fin_normal {fn : Func} {rs : List ResultVar} {ds : List T} {d : T} (hr : fn.results.toList = rs) (h : ResL P t H rs ds) (hl : Le (packT ds) d) :
    endΨ P fn (fun r H => H = [] ∧ r = d) .normal t H := ⟨ds, d, [], by rw [hr]; exact h, hl, ⟨rfl, rfl⟩, fun _ => HeapLe.nil _⟩
theorem fin_retΦ {fn : Func} {Φ : T → Prop} {rs : List ResultVar} {ds : List T} (hr : fn.results.toList = rs) (h : ResL P t H rs ds) (d : T) (hl : Le (packT ds) d) (hp : Φ d) :
    endΨ P fn (fun r H => H = [] ∧ Φ r) .ret t H := ⟨ds, d, [], by rw [hr]; exact h, hl, ⟨rfl, hp⟩, fun _ => HeapLe.nil _⟩
theorem tmod_fix (a n : Int) (hn : 0 < n) : (a.tmod n < 0 → a.tmod n + n = a % n) ∧ (¬ a.tmod n < 0 → a.tmod n = a % n) := by
  have h1 := Int.emod_nonneg a (show n ≠ 0 by omega)
  have h2 := Int.emod_lt_of_pos a hn
  rw [Int.tmod_eq_emod]
  split <;> constructor <;> intro h <;> omega

/-- What stands in a slot whose operation is done only where p is so. -/
def T.gp (p : Prop) (i : Decidable p) (d : T) : T := bif @decide p i then d else .v undef
theorem gp_pos {p : Prop} {i : Decidable p} {d : T} (h : p) : T.gp p i d = d := by simp [T.gp, h]
theorem gp_neg {p : Prop} {i : Decidable p} {d : T} (h : ¬ p) : T.gp p i d = .v undef := by simp [T.gp, h]
theorem gp_v {p : Prop} {i : Decidable p} {v : Value} : T.gp p i (.v v) = .v (bif @decide p i then v else undef) := by by_cases h : p <;> simp [T.gp, h]
section
variable {i n : Nat} {l : List Oper} {op : Op} {tp : TypeId} {pos : String} {aft : Array Edge} {k : Tmp} {d : T} {j kg : Nat} {p q : Prop} {_ : Decidable p} {_ : Decidable q}
theorem bool_t : (Value.bool (decide p) = .bool true) ↔ p := by simp
theorem bool_f : (Value.bool (decide p) = .bool false) ↔ ¬ p := by simp
theorem gbool_t : ((bif decide p then Value.bool (decide q) else undef) = .bool true) ↔ p ∧ q := by by_cases h : p <;> simp [h, undef]
theorem gbool_f : ((bif decide p then Value.bool (decide q) else undef) = .bool false) ↔ p ∧ ¬ q := by by_cases h : p <;> simp [h, undef]
theorem from_gT (hj : (ops[j]?).bind (·.dst) = some kg) (hb : t.get kg = .v (.bool (decide p))) (hp : p → POp K.P t H ⟨some k, op, tp, pos, aft, some (j, true)⟩ d) (hd : Nat.blt k K.n = true)
    (h : SimFrom K ops (i + 1) l ((k, T.gp p inferInstance d) :: t) H N) : SimFrom K ops i (⟨some k, op, tp, pos, aft, some (j, true)⟩ :: l) t H N :=
  from_guard (e := T.gp p inferInstance d) rfl hj hb (fun e => hp (bool_t.1 e)) (fun e => gp_pos (bool_t.1 e)) (fun e => gp_neg (fun h => e (bool_t.2 h))) hd h
theorem from_gF (hj : (ops[j]?).bind (·.dst) = some kg) (hb : t.get kg = .v (.bool (decide p))) (hp : ¬ p → POp K.P t H ⟨some k, op, tp, pos, aft, some (j, false)⟩ d) (hd : Nat.blt k K.n = true)
    (h : SimFrom K ops (i + 1) l ((k, T.gp (¬ p) inferInstance d) :: t) H N) : SimFrom K ops i (⟨some k, op, tp, pos, aft, some (j, false)⟩ :: l) t H N :=
  from_guard (e := T.gp (¬ p) inferInstance d) rfl hj hb (fun e => hp (bool_f.1 e)) (fun e => gp_pos (bool_f.1 e)) (fun e => gp_neg (fun h => e (bool_f.2 h))) hd h
theorem from_hT (hj : (ops[j]?).bind (·.dst) = some kg) (hb : t.get kg = T.gp p ‹_› (.v (.bool (decide q)))) (hp : p ∧ q → POp K.P t H ⟨some k, op, tp, pos, aft, some (j, true)⟩ d) (hd : Nat.blt k K.n = true)
    (h : SimFrom K ops (i + 1) l ((k, T.gp (p ∧ q) inferInstance d) :: t) H N) : SimFrom K ops i (⟨some k, op, tp, pos, aft, some (j, true)⟩ :: l) t H N :=
  from_guard (e := T.gp (p ∧ q) inferInstance d) rfl hj (hb.trans gp_v) (fun e => hp (gbool_t.1 e)) (fun e => gp_pos (gbool_t.1 e)) (fun e => gp_neg (fun h => e (gbool_t.2 h))) hd h
theorem from_hF (hj : (ops[j]?).bind (·.dst) = some kg) (hb : t.get kg = T.gp p ‹_› (.v (.bool (decide q)))) (hp : p ∧ ¬ q → POp K.P t H ⟨some k, op, tp, pos, aft, some (j, false)⟩ d) (hd : Nat.blt k K.n = true)
    (h : SimFrom K ops (i + 1) l ((k, T.gp (p ∧ ¬ q) inferInstance d) :: t) H N) : SimFrom K ops i (⟨some k, op, tp, pos, aft, some (j, false)⟩ :: l) t H N :=
  from_guard (e := T.gp (p ∧ ¬ q) inferInstance d) rfl hj (hb.trans gp_v) (fun e => hp (gbool_f.1 e)) (fun e => gp_pos (gbool_f.1 e)) (fun e => gp_neg (fun h => e (gbool_f.2 h))) hd h
theorem draw_gT (hj : (ops[j]?).bind (·.dst) = some kg) (hb : t.get kg = .v (.bool (decide p))) (hp : p → POp K.P t H ⟨some k, op, tp, pos, aft, some (j, true)⟩ d)
    (h : DrawFrom K ops (i + 1) n l ((k, T.gp p inferInstance d) :: t) H N) : DrawFrom K ops i (n + 1) (⟨some k, op, tp, pos, aft, some (j, true)⟩ :: l) t H N :=
  draw_g (e := T.gp p inferInstance d) hj hb (fun e => hp (bool_t.1 e)) (fun e => gp_pos (bool_t.1 e)) (fun e => gp_neg (fun h => e (bool_t.2 h))) h
theorem draw_gF (hj : (ops[j]?).bind (·.dst) = some kg) (hb : t.get kg = .v (.bool (decide p))) (hp : ¬ p → POp K.P t H ⟨some k, op, tp, pos, aft, some (j, false)⟩ d)
    (h : DrawFrom K ops (i + 1) n l ((k, T.gp (¬ p) inferInstance d) :: t) H N) : DrawFrom K ops i (n + 1) (⟨some k, op, tp, pos, aft, some (j, false)⟩ :: l) t H N :=
  draw_g (e := T.gp (¬ p) inferInstance d) hj hb (fun e => hp (bool_f.1 e)) (fun e => gp_pos (bool_f.1 e)) (fun e => gp_neg (fun h => e (bool_f.2 h))) h
theorem draw_hT (hj : (ops[j]?).bind (·.dst) = some kg) (hb : t.get kg = T.gp p ‹_› (.v (.bool (decide q)))) (hp : p ∧ q → POp K.P t H ⟨some k, op, tp, pos, aft, some (j, true)⟩ d)
    (h : DrawFrom K ops (i + 1) n l ((k, T.gp (p ∧ q) inferInstance d) :: t) H N) : DrawFrom K ops i (n + 1) (⟨some k, op, tp, pos, aft, some (j, true)⟩ :: l) t H N :=
  draw_g (e := T.gp (p ∧ q) inferInstance d) hj (hb.trans gp_v) (fun e => hp (gbool_t.1 e)) (fun e => gp_pos (gbool_t.1 e)) (fun e => gp_neg (fun h => e (gbool_t.2 h))) h
theorem draw_hF (hj : (ops[j]?).bind (·.dst) = some kg) (hb : t.get kg = T.gp p ‹_› (.v (.bool (decide q)))) (hp : p ∧ ¬ q → POp K.P t H ⟨some k, op, tp, pos, aft, some (j, false)⟩ d)
    (h : DrawFrom K ops (i + 1) n l ((k, T.gp (p ∧ ¬ q) inferInstance d) :: t) H N) : DrawFrom K ops i (n + 1) (⟨some k, op, tp, pos, aft, some (j, false)⟩ :: l) t H N :=
  draw_g (e := T.gp (p ∧ ¬ q) inferInstance d) hj (hb.trans gp_v) (fun e => hp (gbool_f.1 e)) (fun e => gp_pos (gbool_f.1 e)) (fun e => gp_neg (fun h => e (gbool_f.2 h))) h
theorem ev_un {x : Operand} {ip : Decidable p} (h : t.ev x = T.gp p ip d) (hp : p) : t.ev x = d := by rw [h, gp_pos hp]
section
variable {dst : Option Tmp} {g : Option (Nat × Bool)} {c x y : Operand} {r : Prop} {_ : Decidable r}
theorem pop_pick_or {ir : Decidable (¬ p)} (hc : t.ev c = .v (.bool (decide p))) (hx : t.ev x = .v (.bool true)) (hy : t.ev y = T.gp (¬ p) ir (.v (.bool (decide q)))) :
    POp P t H ⟨dst, .pick c x y, tp, pos, aft, g⟩ (.v (.bool (decide (p ∨ q)))) :=
  POp.le (pop_pick hc hx hy) (Le.of_eq (by by_cases h : p <;> by_cases h' : q <;> simp [T.gp, h, h']))
theorem pop_pick_and {ir : Decidable p} (hc : t.ev c = .v (.bool (decide p))) (hx : t.ev x = T.gp p ir (.v (.bool (decide q)))) (hy : t.ev y = .v (.bool false)) :
    POp P t H ⟨dst, .pick c x y, tp, pos, aft, g⟩ (.v (.bool (decide (p ∧ q)))) :=
  POp.le (pop_pick hc hx hy) (Le.of_eq (by by_cases h : p <;> by_cases h' : q <;> simp [T.gp, h, h']))
theorem pop_pick_orN {ir : Decidable (r ∧ ¬ p)} {i2 : Decidable r} (hc : t.ev c = T.gp r i2 (.v (.bool (decide p)))) (hx : t.ev x = .v (.bool true)) (hy : t.ev y = T.gp (r ∧ ¬ p) ir (.v (.bool (decide q)))) (hr : r) :
    POp P t H ⟨dst, .pick c x y, tp, pos, aft, g⟩ (.v (.bool (decide (p ∨ q)))) :=
  POp.le (pop_pick (hc.trans (gp_pos hr)) hx hy) (Le.of_eq (by by_cases h : p <;> by_cases h' : q <;> simp [T.gp, h, h', hr]))
theorem pop_pick_andN {ir : Decidable (r ∧ p)} {i2 : Decidable r} (hc : t.ev c = T.gp r i2 (.v (.bool (decide p)))) (hx : t.ev x = T.gp (r ∧ p) ir (.v (.bool (decide q)))) (hy : t.ev y = .v (.bool false)) (hr : r) :
    POp P t H ⟨dst, .pick c x y, tp, pos, aft, g⟩ (.v (.bool (decide (p ∧ q)))) :=
  POp.le (pop_pick (hc.trans (gp_pos hr)) hx hy) (Le.of_eq (by by_cases h : p <;> by_cases h' : q <;> simp [T.gp, h, h', hr]))
theorem pop_eqlB {ty ty' : TypeId} (hx : t.ev x = .v (.bool (decide p))) (hy : t.ev y = .v (.bool (decide q))) (hu : P.underlying ty = some .bool) : POp P t H ⟨dst, .binOp .eql ty x y ty', tp, pos, aft, g⟩ (.v (.bool (decide (p ↔ q)))) :=
  pop_bin hx hy fun w => by
    have := run_equalIn_bool w 9999 ty (decide p) (decide q) hu
    have e : (Op.equal ty (.bool (decide p)) (.bool (decide q))).run P w = .ok (decide p == decide q) w := this
    by_cases h : p <;> by_cases h' : q <;> simp [h, h'] at e <;> simp [eqGuard, binOp, h, h', e]
theorem pop_neqB {ty ty' : TypeId} (hx : t.ev x = .v (.bool (decide p))) (hy : t.ev y = .v (.bool (decide q))) (hu : P.underlying ty = some .bool) : POp P t H ⟨dst, .binOp .neq ty x y ty', tp, pos, aft, g⟩ (.v (.bool (decide (¬ (p ↔ q))))) :=
  pop_bin hx hy fun w => by
    have := run_equalIn_bool w 9999 ty (decide p) (decide q) hu
    have e : (Op.equal ty (.bool (decide p)) (.bool (decide q))).run P w = .ok (decide p == decide q) w := this
    by_cases h : p <;> by_cases h' : q <;> simp [h, h'] at e <;> simp [eqGuard, binOp, h, h', e]
theorem pop_notP {ty : TypeId} (hx : t.ev x = .v (.bool (decide p))) : POp P t H ⟨dst, .unOp .not ty x, tp, pos, aft, g⟩ (.v (.bool (decide (¬ p)))) :=
  POp.le (pop_not hx) (Le.of_eq (by by_cases h : p <;> simp [h]))
end
end
section
variable {dst : Option Tmp} {tp : TypeId} {pos : String} {aft : Array Edge} {g : Option (Nat × Bool)} {ty ty' : TypeId}
theorem pop_loadO_agg {x : Operand} {b o n m : Nat} {ty0 : TypeId} {cells cs : List T} (hx : t.ev x = .v (.pointer (some ⟨b, o, none⟩))) (hi : (b, (⟨ty0, cells, m⟩ : Blk)) ∈ H) [hk : AggC P ty n]
    (hc : TakeR cells o n cs) : POp P t H ⟨dst, .load ty x, tp, pos, aft, g⟩ (.agg cs) := by
  obtain ⟨i, hi⟩ := List.mem_iff_getElem?.1 hi
  have := pop_load_own_agg (P := P) (dst := dst) (tp := tp) (pos := pos) (aft := aft) (g := g) (ty := ty) (n := n) i hx hi (by simpa using hc.eq.2)
  simp only [hc.eq.1] at this
  exact this
theorem pop_loadO {x : Operand} {b o m : Nat} {ty0 : TypeId} {cells : List T} {d : T} (hx : t.ev x = .v (.pointer (some ⟨b, o, none⟩))) (hi : (b, (⟨ty0, cells, m⟩ : Blk)) ∈ H) (hd : cells[o]? = some d) (hk : leafTy P ty = true) :
    POp P t H ⟨dst, .load ty x, tp, pos, aft, g⟩ d := by
  obtain ⟨i, hi⟩ := List.mem_iff_getElem?.1 hi
  exact pop_load_own i hx hi hd hk
theorem eop_storeO {x y : Operand} {b o m : Nat} {ty0 : TypeId} {cells cs : List T} {d : T} {H' : Heap} (hx : t.ev x = .v (.pointer (some ⟨b, o, none⟩))) (hy : t.ev y = d)
    (hi : HRep H (b, ⟨ty0, cells, m⟩) (b, ⟨ty0, cs, m⟩) H') (hc : LayR cells o d.cells cs)
    (hs : sizeT K.P ty = some d.cells.length) (hp : Nat.blt 0 d.cells.length = true) (hl : allLeaf d.cells = true) (h : N t H') : EOp K t H ⟨none, .store ty x y, tp, pos, aft, g⟩ N := by
  obtain ⟨i, hi, rfl⟩ := hi
  refine eop_store i hx hi hy hs hp hl hc.eq.2 ?_
  simp only [hc.eq.1]
  exact h
/-- ... where the cells are not written out. -/
theorem eop_storeS {x y : Operand} {b o m : Nat} {ty0 : TypeId} {cells : List T} {d : T} {H' : Heap} (hx : t.ev x = .v (.pointer (some ⟨b, o, none⟩))) (hy : t.ev y = d)
    (hi : HRep H (b, ⟨ty0, cells, m⟩) (b, ⟨ty0, lay cells o d.cells, m⟩) H')
    (hs : sizeT K.P ty = some d.cells.length) (hp : Nat.blt 0 d.cells.length = true) (hl : allLeaf d.cells = true) (hc : o + d.cells.length ≤ cells.length) (h : N t H') : EOp K t H ⟨none, .store ty x y, tp, pos, aft, g⟩ N := by
  obtain ⟨i, hi, rfl⟩ := hi
  exact eop_store i hx hi hy hs hp hl hc h
theorem eop_copyO {x y : Operand} {b o n c m : Nat} {ty0 : TypeId} {cells : List T} {f : Bool} {xs : List T} {kk : Nat} {H' : Heap} (hx : t.ev x = .v (.slice (some ⟨b, o, none⟩) n c)) (hy : t.ev y = .sl f xs)
    (hi : HRep H (b, ⟨ty0, cells, m⟩) (b, ⟨ty0, lay cells o ((xs.take (min xs.length n)).flatMap T.cells), m⟩) H')
    [hs : ElemSzC K.P ty kk] (hp : Nat.blt 0 kk = true) (hk : ∀ x ∈ xs, x.cells.length = kk) (hl : ∀ x ∈ xs, allLeaf x.cells = true) (ho : o + min xs.length n * kk ≤ cells.length) {kd : Tmp} (hd : Nat.blt kd K.n = true)
    (h : N ((kd, .v (.int .i64 (min xs.length n : Nat))) :: t) H') : EOp K t H ⟨some kd, .call ⟨.builtin .copy, #[x, y], #[ty, ty']⟩, tp, pos, aft, g⟩ N := by
  obtain ⟨i, hi, rfl⟩ := hi
  exact eop_copy i hx hy hi hp hk hl ho hd h
theorem sim_freezeO {c : Code} (j : Nat) {b n cap m : Nat} {ty0 : TypeId} {cells : List T} {kk : Nat} {H' : Heap} (f : Bool) (xs : List T) (hj : t.get j = .v (.slice (some ⟨b, 0, none⟩) n cap)) (hi : HDel H (b, ⟨ty0, cells, m⟩) H')
    (hxs : xs.length = n) (hk : ∀ x ∈ xs, x.cells.length = kk) (hc : cells.take (n * kk) = xs.flatMap T.cells) (hagg : ∀ x ∈ xs, x.isLeaf = true ∨ ∃ ys, x = .agg ys)
    (hf : f = true → cap = n) (hcap : n ≤ cap) (h : Sim K c ((j, .sl f xs) :: t) H' Ψ) : Sim K c t H Ψ := by
  obtain ⟨i, hi, rfl⟩ := hi
  exact sim_freeze i j f xs hi hj hxs hk hc hagg hf hcap h
theorem from_freezeO {ops : Array Oper} {l : List Oper} {q : Nat} (j : Nat) {b n cap m : Nat} {ty0 : TypeId} {cells : List T} {kk : Nat} {H' : Heap} (f : Bool) (xs : List T) (hj : t.get j = .v (.slice (some ⟨b, 0, none⟩) n cap)) (hi : HDel H (b, ⟨ty0, cells, m⟩) H')
    (hxs : xs.length = n) (hk : ∀ x ∈ xs, x.cells.length = kk) (hc : cells.take (n * kk) = xs.flatMap T.cells) (hagg : ∀ x ∈ xs, x.isLeaf = true ∨ ∃ ys, x = .agg ys)
    (hf : f = true → cap = n) (hcap : n ≤ cap) (h : SimFrom K ops q l ((j, .sl f xs) :: t) H' N) : SimFrom K ops q l t H N := by
  obtain ⟨i, hi, rfl⟩ := hi
  exact from_freeze i j f xs hi hj hxs hk hc hagg hf hcap h
theorem eop_appendO {x y : Operand} {b n c m : Nat} {ty0 : TypeId} {cells : List T} {ys : List T} {f : Bool} {dy : T} {d : T} {by_ : Nat} (hx : t.ev x = .v (.slice (some ⟨b, 0, none⟩) n c)) (hi : (b, (⟨ty0, cells, m⟩ : Blk)) ∈ H) (hy : t.ev y = dy) (hyl : Le dy (.sl f ys))
    [hz : ElemZC K.P ty d by_] (hs : isSliceTy K.P ty' = true) (hty : ty0 = elemTy K.P ty) (hkl : cells.length = n * d.cells.length) (hks : m = c * d.cells.length)
    (hky : ∀ x ∈ ys, x.cells.length = d.cells.length) (hyleaf : ∀ x ∈ ys, allLeaf x.cells = true) (hb : (n + ys.length) * by_ ≤ 140737488355328) (hm : n + ys.length ≤ 9223372036854775807) {kd : Tmp} (hd : Nat.blt kd K.n = true)
    (h : ∀ b' c' H', b' = b ∨ (∀ e ∈ keys H, ¬ e = b') → n + ys.length ≤ c' → HRep H (b, ⟨ty0, cells, m⟩) (b', ⟨ty0, cells ++ ys.flatMap T.cells, c' * d.cells.length⟩) H' →
      N ((kd, .v (.slice (some ⟨b', 0, none⟩) (n + ys.length) c')) :: t) H') :
    EOp K t H ⟨some kd, .call ⟨.builtin .append, #[x, y], #[ty, ty']⟩, tp, pos, aft, g⟩ N := by
  obtain ⟨i, hi⟩ := List.mem_iff_getElem?.1 hi
  exact eop_append_own i hx hi hy hyl hs hty hkl hks hky hyleaf hb hm hd fun b' c' h1 h2 => h b' c' _ h1 h2 ⟨i, hi, rfl⟩
theorem resl_cellO {k : Tmp} {ty : TypeId} {rs : List ResultVar} {ds : List T} {b n m : Nat} {ty0 : TypeId} {cells cs : List T} (h : t.get k = .v (.pointer (some ⟨b, 0, none⟩))) (hi : (b, (⟨ty0, cells, m⟩ : Blk)) ∈ H) [ha : AggC P ty n]
    (hc : TakeR cells 0 n cs) (hs : ResL P t H rs ds) : ResL P t H (.cell k ty :: rs) (.agg cs :: ds) := by
  obtain ⟨i, hi⟩ := List.mem_iff_getElem?.1 hi
  exact ⟨⟨i, b, _, h, hi, .inl ⟨n, ha.h, by simpa using hc.eq.2, by have := hc.eq.1; simp at this; rw [this]⟩⟩, hs⟩
theorem resl_cell1O {k : Tmp} {ty : TypeId} {rs : List ResultVar} {ds : List T} {b m : Nat} {ty0 : TypeId} {cells : List T} {d : T} (h : t.get k = .v (.pointer (some ⟨b, 0, none⟩))) (hi : (b, (⟨ty0, d :: cells, m⟩ : Blk)) ∈ H)
    (hl : leafTy P ty = true) (hs : ResL P t H rs ds) : ResL P t H (.cell k ty :: rs) (d :: ds) := by
  obtain ⟨i, hi⟩ := List.mem_iff_getElem?.1 hi
  exact ⟨⟨i, b, _, h, hi, .inr ⟨hl, rfl⟩⟩, hs⟩
end
end
end Go.Cap
