/-
  group: a committee's memory; is, there, Keep, has, Under, sent.
  group: there, Keep, has, Under, sent.
  A region in whatever order its edges allow: those that only yield are walked as soon as they may be; among those that do something every order is walked, by a plan.
-/
import Derived.Test.YtjbokbikkcfjjaaGreatAaz
import Derived.Test.YtjbokbikkcfjjaaGreatAaw
import Derived.Test.YtjbokbikkcfjjaaGreatAay
import Derived.Test.YtjbokbikkcfjjaaGreatAan
import Derived.Test.YtjbokbikkcfjjaaGreatAar
section
set_option maxRecDepth 16000
namespace Go.Proofs.YtjbokbikkcfjjaaGreat
open Go.Cap
set_option linter.unusedSimpArgs false
set_option linter.unusedVariables false
attribute [local irreducible] POp SimFrom DrawFrom EOp Sim FnH T.gp
def tG : TypeId := 72
structure Ad where
  bd : Nat
  bk : Nat
  bj : Nat
def mH (a : Ad) (K : Kp) : Heap := KpH a.bk a.bj a.bd K
def gM (a : Nat → Ad) (k : Nat → Kp) : Heap := (List.range 5).flatMap fun j => mH (a j) (k j)
def gO (a : Nat → Ad) (k : Nat → Kp) (i : Nat) : Heap := ((List.range 5).filter (fun j => !Nat.beq j i)).flatMap fun j => mH (a j) (k j)
def upA {α : Type} (f : Nat → α) (i : Nat) (x : α) : Nat → α := fun j => if j = i then x else f j
theorem gM_at (a : Nat → Ad) (k : Nat → Kp) {i : Nat} (hi : i < 5) : (gM a k).Perm (mH (a i) (k i) ++ gO a k i) := by
  have h : ∀ i : Fin 5, (List.range 5).Perm (i.val :: (List.range 5).filter (fun j => !Nat.beq j i.val)) := by decide
  exact (h ⟨i, hi⟩).flatMap_right _
theorem gO_up (a a' : Nat → Ad) (k k' : Nat → Kp) (i : Nat) (h : ∀ j, j < 5 → ¬ j = i → a' j = a j ∧ k' j = k j) : gO a' k' i = gO a k i := by
  have h1 : ∀ l : List Nat, (∀ j ∈ l, a' j = a j ∧ k' j = k j) → (l.flatMap fun j => mH (a' j) (k' j)) = l.flatMap fun j => mH (a j) (k j) := by
    intro l
    induction l with
    | nil => intro _; rfl
    | cons j l ih =>
      intro hl
      rw [List.flatMap_cons, List.flatMap_cons, ih fun x hx => hl x (List.mem_cons_of_mem _ hx), (hl j List.mem_cons_self).1, (hl j List.mem_cons_self).2]
  refine h1 _ fun j hj => ?_
  obtain ⟨h2, h3⟩ := List.mem_filter.1 hj
  exact h j (List.mem_range.1 h2) (fun e => by subst e; simp at h3)
theorem gM_up (a a' : Nat → Ad) (k k' : Nat → Kp) {i : Nat} (hi : i < 5) (h : ∀ j, j < 5 → ¬ j = i → a' j = a j ∧ k' j = k j) : (mH (a' i) (k' i) ++ gO a k i).Perm (gM a' k') := by
  rw [← gO_up a a' k k' i h]
  exact (gM_at a' k' hi).symm
theorem gM_eq (a : Nat → Ad) (k k' : Nat → Kp) (h : ∀ j, j < 5 → k' j = k j) : gM a k' = gM a k := by
  have h0 : ∀ l : List Nat, (∀ j ∈ l, k' j = k j) → (l.flatMap fun j => mH (a j) (k' j)) = l.flatMap fun j => mH (a j) (k j) := by
    intro l
    induction l with
    | nil => intro _; rfl
    | cons j l ih => intro hl; rw [List.flatMap_cons, List.flatMap_cons, ih fun x hx => hl x (List.mem_cons_of_mem _ hx), hl j List.mem_cons_self]
  exact h0 _ fun j hj => h j (List.mem_range.1 hj)
def gC (conf : Int) (a : Nat → Ad) (bm : Nat) (wv : Value) : List T :=
  [ei conf, pW (a 0).bd, pW (a 0).bk, pW (a 1).bd, pW (a 1).bk, pW (a 2).bd, pW (a 2).bk, pW (a 3).bd, pW (a 3).bk, pW (a 4).bd, pW (a 4).bk, .v (.map (some bm)), .v wv]
theorem gC_d {conf : Int} {a : Nat → Ad} {bm : Nat} {wv : Value} {i : Int} (h : isI i) : (gC conf a bm wv)[0 + 1 + i.toNat * 2 + 0]? = some (pW (a i.toNat).bd) := by
  rcases five h.1 h.2 with rfl | rfl | rfl | rfl | rfl <;> rfl
theorem gC_k {conf : Int} {a : Nat → Ad} {bm : Nat} {wv : Value} {i : Int} (h : isI i) : (gC conf a bm wv)[0 + 1 + i.toNat * 2 + 1]? = some (pW (a i.toNat).bk) := by
  rcases five h.1 h.2 with rfl | rfl | rfl | rfl | rfl <;> rfl
theorem gC_m {conf : Int} {a : Nat → Ad} {bm : Nat} {wv : Value} {i : Int} (h : isI i) : TakeR (gC conf a bm wv) (0 + 1 + i.toNat * 2) 2 [pW (a i.toNat).bd, pW (a i.toNat).bk] := by
  rcases five h.1 h.2 with rfl | rfl | rfl | rfl | rfl <;> ((repeat (apply TakeR.skip)); (repeat (apply TakeR.cons)); exact TakeR.nil _)
def gH (bg : Nat) (conf : Int) (a : Nat → Ad) (bm : Nat) (es : List (Value × T × Nat)) (clk : Nat) (W : Heap) (wv : Value) (k : Nat → Kp) : Heap :=
  (bg, ⟨tG, gC conf a bm wv, 13⟩) :: (bm, ⟨.map es clk, [], 0⟩) :: (W ++ gM a k)
structure AwOk (aw : List Bool) (es : List (Value × T × Nat)) : Prop where
  keys : KeysOk (.int .i64) es
  get : ∀ i : Nat, i < 5 → (mget es (.int .i64 (i : Int))).getD (.v (.bool false)) = eB (aw.getD i false)
def IsG (bg : Nat) (g : Gp) (H : Heap) : Prop := ∃ a bm es clk W wv, AwOk g.aw es ∧ OM g.way wv W ∧ H = gH bg g.conf a bm es clk W wv g.k
theorem decB {b : Bool} : ∃ (p : Prop) (ip : Decidable p), b = @decide p ip := ⟨b = true, inferInstance, by cases b <;> rfl⟩
set_option maxHeartbeats 1000000 in
theorem gis_fn (bg : Nat) (g : Gp) (H : Heap) (i : Int) (hG : IsG bg g H) : FnH Tryz.prog 41 [pW bg, ei i] H (fun r H' => r = .v (.bool (decide (isI i))) ∧ H' = H) := by
  obtain ⟨a, bm, es, clk, W, wv, hA, hO, rfl⟩ := hG
  refine fn_enter Tryz.func41 (by rfl) (by rfl) ?_
  intro S0 w0
  show Sim _ _ [(0, pW bg), (1, ei i)] ((bg, ⟨tG, gC g.conf a bm wv, 13⟩) :: (bm, ⟨.map es clk, [], 0⟩) :: (W ++ gM a g.k)) _
  by_cases hi : isI i
  · have hm := gC_m (conf := g.conf) (a := a) (bm := bm) (wv := wv) hi
    have hp : 0 ≤ i ∧ i < 5 := hi
    refine zC ?_
    apply cr
    refine s_ p_as ?_
    refine zC ?_
    apply cr
    refine s_ p_mv ?_
    refine s_ p_ge ?_
    refine s_ p_mv ?_
    refine gT (fun hg => p_mv) ?_
    refine gT (fun hg => p_lt (hx := u_ hg)) ?_
    refine s_ p_an ?_
    refine s_ p_mv ?_
    refine gT (fun hg => p_mv) ?_
    refine gT (fun hg => p_mv) ?_
    refine gT (fun hg => p_nc (hx := u_ hg)) ?_
    refine gT (fun hg => p_fr (hx := u_ hg)) ?_
    refine gT (fun hg => p_ar (hx := u_ hg) (hy := u_ hg)) ?_
    refine gT (fun hg => p_loa (hx := u_ hg) (hc := by first | assumption | ((repeat (apply TakeR.skip)); (repeat (apply TakeR.cons)); exact TakeR.nil _))) ?_
    refine gT (fun hg => p_bd 2 [_, _]) ?_
    refine gT (fun hg => p_neP Tryz.eqGuardType68 (hx := u_ hg) (hy := u_ hg)) ?_
    refine s_ p_an ?_
    refine s_ p_as ?_
    refine zC ?_
    refine zR ?_
    refine rh kR ⟨rfl, rfl⟩ ?_
    exact Le.of_eq (by show T.v (.bool (decide _)) = _; simp [hi, hp.1, hp.2])
  · have hno : ¬ (0 ≤ i ∧ i < 5) := hi
    refine zC ?_
    apply cr
    refine s_ p_as ?_
    refine zC ?_
    apply cr
    refine s_ p_mv ?_
    refine s_ p_ge ?_
    refine s_ p_mv ?_
    refine gT (fun hg => p_mv) ?_
    refine gT (fun hg => p_lt (hx := u_ hg)) ?_
    refine s_ p_an ?_
    refine s_ p_mv ?_
    (repeat (refine gT (p := 0 ≤ i ∧ i < 5) (d := .v (.bool (decide False))) (fun hg => absurd hg hno) ?_))
    refine s_ p_an ?_
    refine s_ p_as ?_
    refine zC ?_
    refine zR ?_
    refine rh kR ⟨rfl, rfl⟩ ?_
    exact Le.of_eq (by show T.v (.bool (decide _)) = _; simp [hi])
end Go.Proofs.YtjbokbikkcfjjaaGreat
end
section
set_option maxRecDepth 16000
namespace Go.Proofs.YtjbokbikkcfjjaaGreat
open Go.Cap
set_option linter.unusedSimpArgs false
set_option linter.unusedVariables false
attribute [local irreducible] POp SimFrom DrawFrom EOp Sim FnH T.gp
theorem perm3 {x y : Nat × Blk} {W M A B : Heap} (h : M.Perm (A ++ B)) : (x :: y :: (W ++ M)).Perm (A ++ (x :: y :: (W ++ B))) := by
  have h1 : (W ++ M).Perm (A ++ (W ++ B)) := (h.append_left W).trans (by rw [← List.append_assoc, ← List.append_assoc]; exact List.perm_append_comm.append_right B)
  have h2 : (x :: y :: (W ++ M)).Perm (x :: y :: (A ++ (W ++ B))) := (h1.cons y).cons x
  exact h2.trans (((List.perm_middle (a := y) (l₁ := A) (l₂ := W ++ B)).symm.cons x).trans (List.perm_middle (a := x) (l₁ := A) (l₂ := y :: (W ++ B))).symm)
def kB (a : Ad) (K : Kp) : Heap := [(a.bk, ⟨tK, pW a.bj :: nodeC K.N (.sl false (K.N.log.map een)), 23⟩), (a.bj, ⟨tJ, [pW a.bd, ei K.n], 2⟩)]
theorem mH_disk (a : Ad) (K : Kp) (B : Heap) : (mH a K ++ B).Perm (DkH a.bd K.d ++ (kB a K ++ B)) := by
  show (kB a K ++ (DkH a.bd K.d ++ B)).Perm _
  rw [← List.append_assoc, ← List.append_assoc]
  exact List.perm_append_comm.append_right B
theorem gM_disk (a : Nat → Ad) (k : Nat → Kp) {i : Nat} (hi : i < 5) : (gM a k).Perm (DkH (a i).bd (k i).d ++ (kB (a i) (k i) ++ gO a k i)) := (gM_at a k hi).trans (mH_disk _ _ _)
theorem IsG.nat {i : Int} (h : isI i) : (((i.toNat : Nat) : Int)) = i := by have := h.1; omega
set_option maxHeartbeats 2000000 in
theorem gthere_fn (bg : Nat) (g : Gp) (H : Heap) (i : Int) (hG : IsG bg g H) : FnH Tryz.prog 46 [pW bg, ei i] H (fun r H' => r = eB (thereG g i) ∧ H' = H) := by
  have hI := gis_fn bg g H i hG
  obtain ⟨a, bm, es, clk, W, wv, hA, hO, rfl⟩ := hG
  refine fn_enter Tryz.func46 (by rfl) (by rfl) ?_
  intro S0 w0
  show Sim _ _ [(0, pW bg), (1, ei i)] ((bg, ⟨tG, gC g.conf a bm wv, 13⟩) :: (bm, ⟨.map es clk, [], 0⟩) :: (W ++ gM a g.k)) _
  have hkeys := hA.keys
  refine zC ?_
  apply cr
  refine s_ p_as ?_
  refine zC ?_
  apply cr
  refine s_ p_mv ?_
  refine s_ p_mv ?_
  refine e_cHA hI (fun r H' ⟨hr1, hr2⟩ => ?_)
  subst hr1 hr2
  by_cases hi : isI i
  · have hl := hA.get i.toNat (isI_nat hi).1
    rw [IsG.nat hi] at hl
    obtain ⟨q, iq, hq⟩ := decB (b := g.aw.getD i.toNat false)
    rw [hq] at hl
    refine s_ p_mv ?_
    refine gT (fun hg => p_mv) ?_
    refine gT (fun hg => p_nc (hx := u_ hg)) ?_
    refine gT (fun hg => p_fr (hx := u_ hg)) ?_
    refine gT (fun hg => p_lo (hx := u_ hg)) ?_
    refine gT (fun hg => p_mv) ?_
    refine gT (d := .v (.bool (decide q))) (fun hg => by show POp _ _ _ _ (eB (decide q)); rw [← hl]; exact p_lk hkeys (hx := u_ hg) (hy := u_ hg)) ?_
    refine gT (fun hg => p_no (hx := u_ hg)) ?_
    refine s_ p_an ?_
    refine s_ p_mv ?_
    by_cases hq' : q
    · have hno : ¬ (isI i ∧ ¬ q) := fun h => h.2 hq'
      (repeat (refine gT (p := isI i ∧ ¬ q) (d := .v (.bool (decide False))) (fun hg => absurd hg hno) ?_))
      refine s_ p_an ?_
      refine s_ p_as ?_
      refine zC ?_
      refine zR ?_
      refine rh kR ⟨rfl, rfl⟩ ?_
      exact Le.of_eq (by show T.v (.bool (decide _)) = T.v (.bool (thereG g i)); unfold thereG; rw [hq]; simp [hq'])
    · have hyes : isI i ∧ ¬ q := ⟨hi, hq'⟩
      have hd := dead_fn (a i.toNat).bd (g.k i.toNat).d
      have hcd := gC_d (conf := g.conf) (a := a) (bm := bm) (wv := wv) hi
      have hp : 0 ≤ i ∧ i < 5 := hi
      have hperm := perm3 (x := (bg, ⟨tG, gC g.conf a bm wv, 13⟩)) (y := (bm, ⟨.map es clk, [], 0⟩)) (W := W) (gM_disk a g.k (isI_nat hi).1)
      refine gT (fun hg => p_mv) ?_
      refine gT (fun hg => p_mv) ?_
      refine gT (fun hg => p_nc (hx := u_ hg)) ?_
      refine gT (fun hg => p_fr (hx := u_ hg)) ?_
      refine gT (fun hg => p_ar (hx := u_ hg) (hy := u_ hg)) ?_
      refine gT (fun hg => p_fr (hx := u_ hg)) ?_
      refine gT (fun hg => p_lo (hx := u_ hg) (hd := by first | rfl | assumption)) ?_
      refine gT (fun hg => p_nc (hx := u_ hg)) ?_
      (first | refine gT (fun hg => p_faA (hx := u_ hg)) ?_ | refine gT (fun hg => p_fr (hx := u_ hg)) ?_)
      refine gT_cH (p := isI i ∧ ¬ q) hyes hd hperm (fun r H' ⟨hr1, hr2⟩ => ?_) (ha' := evl_cons (u_ hyes) evl_nil)
      subst hr1 hr2
      obtain ⟨q2, iq2, hq2⟩ := decB (b := (g.k i.toNat).d.dead)
      rw [hq2]
      refine gT (p := isI i ∧ ¬ q) (fun hg => p_no (p := q2)) ?_
      refine s_ p_an ?_
      refine s_ p_as ?_
      refine zC ?_
      refine zR ?_
      refine rhp hperm.symm kR ⟨rfl, rfl⟩ ?_
      exact Le.of_eq (by show T.v (.bool (decide _)) = T.v (.bool (thereG g i)); unfold thereG; rw [hq, hq2]; simp [hi, hq'])
  · refine s_ p_mv ?_
    (repeat (refine gT (p := isI i) (d := .v (.bool (decide False))) (fun hg => absurd hg hi) ?_))
    refine s_ p_an ?_
    refine s_ p_mv ?_
    have hno : ¬ (isI i ∧ False) := fun h => h.2
    (repeat (refine gT (p := isI i ∧ False) (d := .v (.bool (decide False))) (fun hg => absurd hg hno) ?_))
    refine s_ p_an ?_
    refine s_ p_as ?_
    refine zC ?_
    refine zR ?_
    refine rh kR ⟨rfl, rfl⟩ ?_
    exact Le.of_eq (by show T.v (.bool (decide _)) = T.v (.bool (thereG g i)); unfold thereG; simp [hi])
set_option maxHeartbeats 1000000 in
theorem gsent_fn (bg : Nat) (g : Gp) (H : Heap) (e : Int) (l : List Ms) (hl : g.way.length + l.length ≤ 1000000) (hG : IsG bg g H) : FnH Tryz.prog 48 [pW bg, ei e, mss l] H (fun r H' => r = .tup [] ∧ IsG bg { g with way := g.way ++ (if e = 0 then l else []) } H') := by
  obtain ⟨a, bm, es, clk, W, wv, hA, hO, rfl⟩ := hG
  obtain ⟨p, c, rfl⟩ := hO.len
  refine fn_enter Tryz.func48 (by rfl) (by rfl) ?_
  intro S0 w0
  show Sim _ _ [(0, pW bg), (1, ei e), (2, mss l)] ((bg, ⟨tG, gC g.conf a bm _, 13⟩) :: (bm, ⟨.map es clk, [], 0⟩) :: (W ++ gM a g.k)) _
  refine zC ?_
  apply cr
  refine s_ p_mv ?_
  refine s_ p_eq ?_
  refine zC ?_
  refine ci ?_ ?_
  · intro he
    have he' : e = 0 := he
    rw [if_pos he']
    refine zC ?_
    apply cr
    refine s_ p_mv ?_
    refine s_ p_mv ?_
    refine s_ p_nc ?_
    refine s_ p_fr ?_
    refine s_ p_lo ?_
    refine s_ p_mv ?_
    refine e_osA (ho := hO) (A := [_, _]) (B := gM a g.k) (ms11 _) (fun v' Hs' ho' => ?_)
    obtain ⟨q, d, rfl⟩ := ho'.len
    refine s_ p_nc ?_
    refine s_ p_fr ?_
    refine e_st ?_
    refine zC ?_
    refine rhn kR ⟨rfl, a, bm, es, clk, Hs', _, hA, (by unfold OM; rw [List.map_append]; exact ho'), rfl⟩ (Le.refl _)
  · intro he
    have he' : ¬ e = 0 := he
    rw [if_neg he']
    refine zC ?_
    refine rhn kR ⟨rfl, a, bm, es, clk, W, _, hA, (by rw [List.append_nil]; exact hO), rfl⟩ (Le.refl _)
end Go.Proofs.YtjbokbikkcfjjaaGreat
end
section
namespace Go.Cap
variable {K : Ctx} {ops : Array Oper} {eff : List Nat} {N : Env → Heap → Prop} {Q : Exit → Act → World → Prop}
inductive Plan where
  | done
  | yields (i : Nat) (p : Plan)
  | alt (i : Nat) (p r : Plan)
  | stop
def Run (K : Ctx) (ops : Array Oper) (eff : List Nat) (N : Env → Heap → Prop) : Plan → Env → Heap → List Pend → Prop
  | .done => fun t H _ => N t H
  | .yields i p => fun t H pend => match ops[i]? with
    | some o => AnyStep K ops eff i o (Run K ops eff N p) t H pend
    | none => False
  | .alt i p r => fun t H pend => (match ops[i]? with
    | some o => AnyStep K ops eff i o (Run K ops eff N p) t H pend
    | none => False) ∧ Run K ops eff N r t H pend
  | .stop => fun _ _ _ => True
def freeB (ops : Array Oper) (pre : List Nat) (i : Nat) : Bool := match ops[i]? with
  | some o => o.after.all fun e => !Region.binds .any e || memN pre e.on
  | none => false
def planOk (ops : Array Oper) (eff : List Nat) : Plan → List Nat → List Nat → Bool
  | .done, pre, seen => seen.isEmpty && (List.range ops.size).all fun j => memN pre j
  | .yields i p, pre, seen => seen.isEmpty && !memN eff i && !memN pre i && freeB ops pre i && planOk ops eff p (i :: pre) []
  | .alt i p r, pre, seen => memN eff i && !memN pre i && freeB ops pre i && planOk ops eff p (i :: pre) [] && planOk ops eff r pre (i :: seen)
  | .stop, pre, seen => !seen.isEmpty && (List.range ops.size).all fun j => memN pre j || memN seen j || !freeB ops pre j
theorem free_edge {pre : List Nat} {i : Nat} {o : Oper} (ho : ops[i]? = some o) (h : freeB ops pre i = true) : ∀ e ∈ o.after, Region.binds .any e = true → e.on ∈ pre := by
  intro e he hb
  simp only [freeB, ho] at h
  have h1 := Array.all_eq_true_iff_forall_mem.1 h e he
  rw [hb] at h1
  exact memN_iff.1 (by simpa using h1)
theorem edge_free {pre : List Nat} {i : Nat} {o : Oper} (ho : ops[i]? = some o) (h : ∀ e ∈ o.after, Region.binds .any e = true → e.on ∈ pre) : freeB ops pre i = true := by
  simp only [freeB, ho]
  refine Array.all_eq_true_iff_forall_mem.2 fun e he => ?_
  cases hb : Region.binds .any e with
  | false => rfl
  | true => simpa using memN_iff.2 (h e he hb)
theorem free_lt {pre : List Nat} {i : Nat} (h : freeB ops pre i = true) : ∃ o, ops[i]? = some o := by
  cases ho : ops[i]? with
  | none => simp [freeB, ho] at h
  | some o => exact ⟨o, rfl⟩
theorem memN_no {l : List Nat} {i : Nat} (h : memN l i = false) : i ∉ l := fun hm => by rw [memN_iff.2 hm] at h; cases h
theorem alt_at {t : Env} {H : Heap} {pend : List Pend} {pre : List Nat} {i : Nat} (hi : i < ops.size) (hp : i ∉ pre) (hf : freeB ops pre i = true) : ∀ (pl : Plan) (seen : List Nat), planOk ops eff pl pre seen = true → Run K ops eff N pl t H pend → (seen = [] → ∀ j p, pl ≠ .yields j p) →
    i ∈ seen ∨ ∃ p o, ops[i]? = some o ∧ i ∈ eff ∧ planOk ops eff p (i :: pre) [] = true ∧ AnyStep K ops eff i o (Run K ops eff N p) t H pend
  | .done, seen, h, _, _ => by
    simp only [planOk, Bool.and_eq_true] at h
    exact absurd (memN_iff.1 ((List.all_eq_true.1 h.2) i (List.mem_range.2 hi))) hp
  | .yields j p, seen, h, _, hn => by
    simp only [planOk, Bool.and_eq_true] at h
    exact absurd rfl (hn (by simpa using h.1.1.1.1) j p)
  | .alt j p r, seen, h, hr, _ => by
    simp only [planOk, Bool.and_eq_true] at h
    obtain ⟨⟨⟨⟨h1, h2⟩, h3⟩, h4⟩, h5⟩ := h
    obtain ⟨hr1, hr2⟩ := hr
    by_cases hij : i = j
    · subst hij
      obtain ⟨o, ho⟩ := free_lt h3
      rw [ho] at hr1
      exact .inr ⟨p, o, ho, memN_iff.1 h1, h4, hr1⟩
    · rcases alt_at hi hp hf r (j :: seen) h5 hr2 (fun e => by cases e) with h | h
      · rcases List.mem_cons.1 h with h | h
        · exact absurd h hij
        · exact .inl h
      · exact .inr h
  | .stop, seen, h, _, _ => by
    simp only [planOk, Bool.and_eq_true] at h
    have := (List.all_eq_true.1 h.2) i (List.mem_range.2 hi)
    rw [hf] at this
    simp only [Bool.not_true, Bool.or_false, Bool.or_eq_true] at this
    rcases this with h | h
    · exact absurd (memN_iff.1 h) hp
    · exact .inl (memN_iff.1 h)
structure WayR (K : Ctx) (ops : Array Oper) (eff : List Nat) (N : Env → Heap → Prop) (pre : List Nat) (pl : Plan) (t : Env) (H : Heap) (pend : List Pend) (listed : Array Bool) : Prop where
  top : ∀ i ∈ pre, ∀ o, ops[i]? = some o → ∀ e ∈ o.after, Region.binds .any e = true → e.on ∈ pre
  todo : ∀ i, i < ops.size → i ∉ pre → listed.getD i true = false
  done : ∀ i ∈ pre, i ∈ eff → listed.getD i false = true
  has : ∀ i ∈ pre, i ∉ eff → listed.getD i true = false → ∃ p ∈ pend, p.i = i
  pis : ∀ p ∈ pend, p.i ∈ pre ∧ p.i ∉ eff ∧ ops[p.i]? = some p.o
  gop : ∀ p ∈ pend, listed.getD p.i true = false → (∀ H', p.F H' → GOp K.P ops t H' p.o p.d) ∧ ∀ k, p.o.dst = some k → t.get k = p.d
  now : ∀ p ∈ pend, listed.getD p.i true = false → p.F H
  closed : ∀ i o, ops[i]? = some o → listed.getD i true = true → ∀ e ∈ o.after, Region.binds .any e = true → listed.getD e.on true = true
  ok : planOk ops eff pl pre [] = true
  go : Run K ops eff N pl t H pend
theorem WayR.pass (hc : AnyOkW ops K.n eff) {H : Heap} {listed : Array Bool} {tx : Env} : ∀ (pl : Plan) {pre : List Nat} {t : Env} {pend : List Pend}, WayR K ops eff N pre pl t H pend listed → (∀ x, (∀ p ∈ pend, listed.getD p.i true = false → p.o.dst ≠ some x) → tx.get x = t.get x) →
    ∃ pre' pl' t' pend', WayR K ops eff N pre' pl' t' H pend' listed ∧ (∀ x, (∀ p ∈ pend', listed.getD p.i true = false → p.o.dst ≠ some x) → tx.get x = t'.get x) ∧ ∀ j p, pl' ≠ .yields j p
  | .done, pre, t, pend, h, hx => ⟨pre, .done, t, pend, h, hx, fun _ _ e => by cases e⟩
  | .alt i p r, pre, t, pend, h, hx => ⟨pre, .alt i p r, t, pend, h, hx, fun _ _ e => by cases e⟩
  | .stop, pre, t, pend, h, hx => ⟨pre, .stop, t, pend, h, hx, fun _ _ e => by cases e⟩
  | .yields i p, pre, t, pend, h, hx => by
    have hok := h.ok
    simp only [planOk, Bool.and_eq_true] at hok
    obtain ⟨⟨⟨⟨_, k1⟩, k2⟩, k3⟩, k4⟩ := hok
    have he : i ∉ eff := memN_no (by simpa using k1)
    have hip : i ∉ pre := memN_no (by simpa using k2)
    have hem : memN eff i = false := by simpa using k1
    obtain ⟨o, ho⟩ := free_lt k3
    have hgo := h.go
    simp only [Run, ho, AnyStep, hem, cond_false] at hgo
    obtain ⟨d, F, hg, hF, hgo⟩ := hgo
    have hlt : i < ops.size := (Array.getElem?_eq_some_iff.1 ho).1
    have hed := free_edge ho k3
    refine WayR.pass hc p (pre := i :: pre) (t := t.put o.dst d) (pend := ⟨i, o, d, F⟩ :: pend) ⟨?_, ?_, ?_, ?_, ?_, ?_, ?_, h.closed, k4, hgo⟩ ?_
    · intro j hj q hq e hee hb
      rcases List.mem_cons.1 hj with rfl | hj
      · rw [ho] at hq; cases hq
        exact List.mem_cons_of_mem _ (hed e hee hb)
      · exact List.mem_cons_of_mem _ (h.top j hj q hq e hee hb)
    · intro j hj hn
      exact h.todo j hj fun hm => hn (List.mem_cons_of_mem _ hm)
    · intro j hj hje
      rcases List.mem_cons.1 hj with rfl | hj
      · exact absurd hje he
      · exact h.done j hj hje
    · intro j hj hje hl
      rcases List.mem_cons.1 hj with rfl | hj
      · exact ⟨_, List.mem_cons_self, rfl⟩
      · obtain ⟨q, hq, hqi⟩ := h.has j hj hje hl
        exact ⟨q, List.mem_cons_of_mem _ hq, hqi⟩
    · intro q hq
      rcases List.mem_cons.1 hq with rfl | hq
      · exact ⟨List.mem_cons_self, he, ho⟩
      · obtain ⟨a, b, c⟩ := h.pis q hq
        exact ⟨List.mem_cons_of_mem _ a, b, c⟩
    · intro q hq hl
      rcases List.mem_cons.1 hq with rfl | hq
      · refine ⟨fun H' hF' => GOp.congr (hg H' hF') fun x hx' => ?_, fun k hk => ?_⟩
        · simp only at hx'
          cases hd : o.dst with
          | none => rfl
          | some k => exact (Env.get_put_ne t d (fun e => (hc.dst i o k ho hd).2.1 (by rw [e]; exact hx'))).symm
        · simp only at hk ⊢; rw [hk]; exact Env.get_put_self _ _ _
      · obtain ⟨a, b, c⟩ := h.pis q hq
        exact ⟨fun H' hF' => gop_moreW hc ho hip h.top a c (fun h5 _ => he h5) ((h.gop q hq hl).1 H' hF'), fun k hk => get_moreW hc ho hip a c hk ((h.gop q hq hl).2 k hk)⟩
    · intro q hq hl
      rcases List.mem_cons.1 hq with rfl | hq
      · exact hF
      · exact h.now q hq hl
    · intro x hxx
      have hne : o.dst ≠ some x := hxx ⟨i, o, d, F⟩ List.mem_cons_self (h.todo i hlt hip)
      rw [hx x fun p hp => hxx p (List.mem_cons_of_mem _ hp)]
      cases hd : o.dst with
      | none => rfl
      | some k => exact (Env.get_put_ne t d (fun e => hne (by rw [hd, e]))).symm
theorem any_goR (hc : AnyOkW ops K.n eff) (hq : ∀ t' H' a' w', N t' H' → R K t' H' a' w' → Q .normal a' w') :
    ∀ (fuel : Nat) (pre : List Nat) (pl : Plan) (t : Env) (H : Heap) (pend : List Pend) (listed : Array Bool) (tx : Env) (a : Act) (w : World), listed.size = ops.size → unl listed ops.size = fuel →
      WayR K ops eff N pre pl t H pend listed → (∀ x, (∀ p ∈ pend, listed.getD p.i true = false → p.o.dst ≠ some x) → tx.get x = t.get x) → R K tx H a w → wpAnyIn (RF K.rd) 0 K.P .any ops Q fuel listed a w := by
  intro fuel
  induction fuel with
  | zero =>
    intro pre pl t H pend listed tx a w hs hf hw hx hr
    have hall : ∀ j, j < ops.size → listed.getD j true = true := fun j hj => by
      have h0 := List.length_eq_zero_iff.1 hf
      have h1 := (List.filter_eq_nil_iff.1 h0) j (List.mem_range.2 hj)
      simpa using h1
    have hlt : ∀ j o, ops[j]? = some o → j < ops.size := fun j o h => (Array.getElem?_eq_some_iff.1 h).1
    refine ⟨?_, ?_⟩
    · refine List.eq_nil_iff_forall_not_mem.2 fun j hj => ?_
      obtain ⟨h0, o, ho, _⟩ := mem_ready.1 hj
      rw [hall j (hlt j o ho)] at h0; cases h0
    · obtain ⟨pre, pl, t, pend, hw, hx, hnp⟩ := WayR.pass hc pl hw hx
      have hin : ∀ j, j < ops.size → j ∈ pre := fun j hj => Classical.byContradiction fun hn => by
        have := hw.todo j hj hn
        rw [hall j hj] at this; cases this
      cases pl with
      | done =>
        refine hq t H a w hw.go (hr.env fun x => hx x fun p hp hl => ?_)
        rw [hall _ (hlt _ _ (hw.pis p hp).2.2)] at hl; cases hl
      | yields i p => exact absurd rfl (hnp i p)
      | alt i p r =>
        have h := hw.ok
        simp only [planOk, Bool.and_eq_true] at h
        obtain ⟨o, ho⟩ := free_lt h.1.1.2
        exact absurd (hin i (hlt _ _ ho)) (memN_no (by simpa using h.1.1.1.2))
      | stop =>
        have h := hw.ok
        simp [planOk] at h
  | succ fuel ih =>
    intro pre pl t H pend listed tx a w hs hf hw hx hr
    have hlt : ∀ j o, ops[j]? = some o → j < ops.size := fun j o h => (Array.getElem?_eq_some_iff.1 h).1
    obtain ⟨pre, pl, t, pend, hw, hx, hnp⟩ := WayR.pass hc pl hw hx
    -- one is ready
    have hex : ∃ i, i < ops.size ∧ listed.getD i true = false := by
      refine Classical.byContradiction fun hne => ?_
      have : unl listed ops.size = 0 := by
        unfold unl
        rw [List.length_eq_zero_iff, List.filter_eq_nil_iff]
        intro j hj
        have hj' := List.mem_range.1 hj
        cases hv : listed.getD j true with
        | false => exact absurd ⟨j, hj', hv⟩ hne
        | true => simp
      omega
    have hmin : ∃ i, i < ops.size ∧ listed.getD i true = false ∧ ∀ j, j < i → listed.getD j true = true := by
      obtain ⟨i, hi1, hi2⟩ := hex
      induction i using Nat.strongRecOn with
      | _ i ihm =>
        by_cases h : ∀ j, j < i → listed.getD j true = true
        · exact ⟨i, hi1, hi2, h⟩
        · obtain ⟨j, hj⟩ := Classical.not_forall.1 h
          obtain ⟨hj1, hj2⟩ := Classical.not_imp.1 hj
          exact ihm j hj1 (by omega) (by simpa using hj2)
    obtain ⟨i0, hi0, hu0, hl0⟩ := hmin
    have hr0 : i0 ∈ Region.ready .any ops listed := mem_ready.2 ⟨hu0, ops[i0], by simp [hi0], fun e he hb => by
      have := hc.back i0 _ (by simp [hi0]) e he hb
      rw [lst (by omega)]; exact hl0 _ this⟩
    refine ⟨fun hn => (by rw [hn] at hr0; cases hr0), fun i hir => ?_⟩
    obtain ⟨hu, o, ho, hall⟩ := mem_ready.1 hir
    have hisz : i < ops.size := hlt i o ho
    have hbnd : ∀ j, j < ops.size → bound o j = true → listed.getD j true = true := fun j hj hb => by
      obtain ⟨e, he, h1, h2⟩ := bound_iff.1 hb
      have := hall e he h1
      rw [h2, lst (by omega)] at this; exact this
    have hlook : ∀ x ∈ o.looksAt ops, tx.get x = t.get x := fun x hxo => hx x fun p hp hl he => by
      have hpi := (hw.pis p hp).2.2
      by_cases hne : i = p.i
      · rw [← hne, ho] at hpi
        have e := Option.some.inj hpi
        exact (hc.dst i o x ho (e ▸ he)).2.1 hxo
      · have := hbnd _ (hlt _ _ hpi) ((((hc.dst p.i p.o x hpi he).2.2 i o ho hne).2 hxo).resolve_right fun h => (hw.pis p hp).2.1 h.1)
        rw [this] at hl; cases hl
    have hopr : ∀ x ∈ o.op.operands, tx.ev x = t.ev x := by
      intro x hx'
      cases x with
      | tmp k' => exact hlook k' (List.mem_append_left _ (List.mem_filterMap.2 ⟨.tmp k', by simpa using hx', rfl⟩))
      | _ => rfl
    have hun := unl_set hs hisz hu
    have hfu : unl (listed.setIfInBounds i true) ops.size = fuel := by omega
    have hset : ∀ j, ¬ i = j → ∀ d, (listed.setIfInBounds i true).getD j d = listed.getD j d := fun j hj d => getD_set_ne d hj
    have hcl' : ∀ i' o', ops[i']? = some o' → (listed.setIfInBounds i true).getD i' true = true → ∀ e ∈ o'.after, Region.binds .any e = true → (listed.setIfInBounds i true).getD e.on true = true := fun i' o' ho' hl e he hb => by
      by_cases hie : i = e.on
      · rw [← hie]; exact lst_set (by omega) _
      · rw [hset _ hie]
        by_cases hii : i = i'
        · subst hii; rw [ho] at ho'; cases ho'
          exact lstt (hall e he hb)
        · rw [hset _ hii] at hl; exact hw.closed i' o' ho' hl e he hb
    have hbr : ∀ j, reachL ops 12 o j = true → listed.getD j true = true := reach_listed hw.closed 12 o fun e he hb => lstt (hall e he hb)
    by_cases hpre : i ∈ pre
    · -- one that floats
      have hne : i ∉ eff := fun he => by
        have := hw.done i hpre he
        rw [lst (by omega)] at this
        rw [this] at hu; cases hu
      obtain ⟨p, hp, hpi⟩ := hw.has i hpre hne hu
      have hpo : p.o = o := by
        have := (hw.pis p hp).2.2
        rw [hpi, ho] at this
        exact (Option.some.inj this).symm
      obtain ⟨k, hk⟩ : ∃ k, o.dst = some k := by
        cases hd : o.dst with
        | none => exact absurd (hc.pur i o ho hd) hne
        | some k => exact ⟨k, rfl⟩
      have hF := hw.now p hp (by rw [hpi]; exact hu)
      have hg := (hw.gop p hp (by rw [hpi]; exact hu)).1 H hF
      have hgk := (hw.gop p hp (by rw [hpi]; exact hu)).2 k (by rw [hpo]; exact hk)
      rw [hpo] at hg
      obtain ⟨hkn, hself, hoth⟩ := hc.dst i o k ho hk
      have next : ∀ (S S' : Nat → Prop) (w' : World) (v : Value), R1 K tx H a w S → Step [] S w S' w' → Rel S' w' p.d v → wpAnyIn (RF K.rd) 0 K.P .any ops Q fuel (listed.setIfInBounds i true) (a.put o.dst v) w' := by
        intro S S' w' v hr1 hst hrv
        refine ih pre pl t H pend _ (tx.put o.dst p.d) _ w' (by simpa using hs) hfu ⟨hw.top, fun q hq hqn => ?_, fun j hj he => ?_, fun j hj he hlj => hw.has j hj he (by
          by_cases hij : i = j
          · subst hij; exact hu
          · rw [hset _ hij] at hlj; exact hlj), hw.pis, (fun q hq hl => hw.gop q hq (by
          by_cases hqi : i = q.i
          · rw [← hqi]; exact hu
          · rw [hset _ hqi] at hl; exact hl)), fun q hq hl => ?_, hcl', hw.ok, hw.go⟩ ?_ ⟨S', hr1.pure hst (by rw [hk]; simpa [okDst] using hkn) hrv⟩
        · have h1 := hw.todo q hq hqn
          by_cases hqi : i = q
          · exact absurd (hqi ▸ hpre) hqn
          · rw [hset _ hqi]; exact h1
        · by_cases hij : i = j
          · subst hij; exact lst_set (by omega) _
          · rw [hset _ hij]; exact hw.done j hj he
        · by_cases hqi : i = q.i
          · rw [← hqi, lst_set (by omega)] at hl; cases hl
          · rw [hset _ hqi] at hl; exact hw.now q hq hl
        · intro x hxx
          rw [hk]
          by_cases hkx : k = x
          · subst hkx; rw [Env.get_put_self, hgk]
          · rw [Env.get_put_ne _ _ hkx]
            refine hx x fun q hq hl he => ?_
            by_cases hqi : i = q.i
            · have := (hw.pis q hq).2.2
              rw [← hqi, ho] at this
              cases this
              rw [hk] at he; cases he
              exact hkx rfl
            · exact hxx q hq (by rw [hset _ hqi]; exact hl) he
      obtain ⟨S, hr1⟩ := hr
      have hop : ∀ x ∈ o.op.operands, Rel S w (t.ev x) (a.eval x) := fun x hx' => hopr x hx' ▸ hr1.env.ev x
      unfold wpOpIn
      simp only [ho]
      unfold GOp at hg
      cases hgu : o.guard with
      | none =>
        rw [hgu] at hg
        simp only [wanted_none hgu a, if_true]
        exact pop_wpIn (hg S w a hr1.wf hr1.own hop) fun S' w' v hst hrv => next S S' w' v hr1 hst hrv
      | some jw =>
        obtain ⟨j, want⟩ := jw
        rw [hgu] at hg
        obtain ⟨k', b, hj, hb, hyes, hno⟩ := hg
        have hv : a.tmps.getD k' undef = b := by
          have := hr1.env k'
          rw [hlook k' (by unfold Oper.looksAt; rw [hgu]; simp [hj]), hb] at this
          exact this.v_eq
        by_cases hwb : b = .bool want
        · simp only [(wanted_some hgu hj hv).1 hwb, if_true]
          exact pop_wpIn (hyes hwb S w a hr1.wf hr1.own hop) fun S' w' v hst hrv => next S S' w' v hr1 hst hrv
        · simp only [(wanted_some hgu hj hv).2 hwb, Bool.false_eq_true, if_false]
          exact ⟨fun _ _ => trivial, next S S w undef hr1 (Step.refl _ hr1.wf) (by rw [hno hwb]; exact .v _)⟩
    · -- the next one that does something
      have hedge : ∀ e ∈ o.after, Region.binds .any e = true → e.on ∈ pre := fun e he hb => by
        have h1 := hall e he hb
        have h2 := hc.back i o ho e he hb
        refine Classical.byContradiction fun hn => ?_
        have h3 := hw.todo e.on (by omega) hn
        rw [← lst (by omega), h1] at h3; cases h3
      obtain ⟨p', o', ho', hpe, hpok, hgo⟩ := (alt_at hisz hpre (edge_free ho hedge) pl [] hw.ok hw.go fun _ => hnp).resolve_left (by simp)
      rw [ho] at ho'; cases ho'
      simp only [AnyStep, memN_iff.2 hpe, cond_true] at hgo
      have hgu := hc.grd i o ho hpe
      unfold wpOpIn
      simp only [ho, wanted_none hgu a, if_true]
      refine hgo tx hopr a w hr _ Q ?_
      rintro t' H' a' w' ⟨d, pend', rfl, hpk, hdrop, hgo'⟩ hr'
      refine ih (i :: pre) p' (t.put o.dst d) H' pend' _ (tx.put o.dst d) a' w' (by simpa using hs) hfu ⟨?_, ?_, ?_, ?_, ?_, ?_, ?_, hcl', hpok, hgo'⟩ ?_ hr'
      · intro j hj q hq e hee hb
        rcases List.mem_cons.1 hj with rfl | hj
        · rw [ho] at hq; cases hq
          exact List.mem_cons_of_mem _ (hedge e hee hb)
        · exact List.mem_cons_of_mem _ (hw.top j hj q hq e hee hb)
      · intro j hj hn
        have hij : ¬ i = j := fun e => hn (e ▸ List.mem_cons_self)
        rw [hset _ hij]
        exact hw.todo j hj fun hm => hn (List.mem_cons_of_mem _ hm)
      · intro j hj he
        by_cases hij : i = j
        · subst hij; exact lst_set (by omega) _
        · rw [hset _ hij]
          rcases List.mem_cons.1 hj with h | h
          · exact absurd h.symm hij
          · exact hw.done j h he
      · intro j hj he hlj
        rcases List.mem_cons.1 hj with rfl | hj
        · exact absurd hpe he
        · have hij : ¬ i = j := fun e => by subst e; rw [lst_set (by omega)] at hlj; cases hlj
          rw [hset _ hij] at hlj
          obtain ⟨q, hq, hqj⟩ := hw.has j hj he hlj
          rcases hdrop.has q hq with h | h
          · exact ⟨q, h, hqj⟩
          · rw [← hqj, hbr q.i h] at hlj; cases hlj
      · intro q hq
        obtain ⟨a1, a2, a3⟩ := hw.pis q (hdrop.sub q hq)
        exact ⟨List.mem_cons_of_mem _ a1, a2, a3⟩
      · intro q hq hl
        replace hq := hdrop.sub q hq
        obtain ⟨a1, a2, a3⟩ := hw.pis q hq
        have hl' : listed.getD q.i true = false := by
          by_cases hqi : i = q.i
          · rw [← hqi, lst_set (by omega)] at hl; cases hl
          · rw [hset _ hqi] at hl; exact hl
        have hnb : i ∈ eff → bound o q.i = true → False := fun _ hb => by
          have := hbnd q.i (hlt _ _ a3) hb
          rw [this] at hl'; cases hl'
        exact ⟨fun H' hF' => gop_moreW hc ho hpre hw.top a1 a3 hnb ((hw.gop q hq hl').1 H' hF'), fun k hk => get_moreW hc ho hpre a1 a3 hk ((hw.gop q hq hl').2 k hk)⟩
      · intro q hq hl
        replace hq := hdrop.sub q hq
        by_cases hqi : i = q.i
        · rw [← hqi, lst_set (by omega)] at hl; cases hl
        · rw [hset _ hqi] at hl
          refine hpk.get q hq ?_
          cases hb : reachL ops 12 o q.i with
          | false => rfl
          | true =>
            rw [hbr q.i hb] at hl; cases hl
      · intro x hxx
        replace hxx : ∀ q ∈ pend, (listed.setIfInBounds i true).getD q.i true = false → q.o.dst ≠ some x := fun q hq hl => by
          rcases hdrop.has q hq with h | h
          · exact hxx q h hl
          · have h2 := hbr q.i h
            by_cases hqi : i = q.i
            · rw [← hqi, lst_set (by omega)] at hl; cases hl
            · rw [hset _ hqi, h2] at hl; cases hl
        cases hd : o.dst with
        | none =>
          show tx.get x = t.get x
          refine hx x fun q hq hl he => ?_
          by_cases hqi : i = q.i
          · exact absurd (hqi ▸ (hw.pis q hq).2.1) (fun h => h hpe)
          · exact hxx q hq (by rw [hset _ hqi]; exact hl) he
        | some k =>
          by_cases hkx : k = x
          · subst hkx; rw [Env.get_put_self, Env.get_put_self]
          · rw [Env.get_put_ne _ _ hkx, Env.get_put_ne _ _ hkx]
            refine hx x fun q hq hl he => ?_
            by_cases hqi : i = q.i
            · exact absurd (hqi ▸ (hw.pis q hq).2.1) (fun h => h hpe)
            · exact hxx q hq (by rw [hset _ hqi]; exact hl) he
theorem sim_plan {t : Env} {H : Heap} {id : Nat} {Ψ : Exit → Env → Heap → Prop} (eff : List Nat) (pl : Plan) (hmix : K.P.follows .mixedOrders = true) (hc : (dstOkW ops K.n eff && planOk ops eff pl [] []) = true)
    (h : Run K ops eff (Ψ .normal) pl t H []) : Sim K (.region id ops true) t H Ψ := by
  intro a w ⟨S, hr⟩
  refine wpIn_region_any hmix ?_
  rw [Bool.and_eq_true] at hc
  have hA := AnyOkW.of hc.1
  have hst : Step [] S w S { w with drawn := w.drawn + 1 } := ⟨rfl, rfl, rfl, Nat.le_refl _, fun _ _ _ => rfl, fun _ h => h, fun _ h => .inl h, hr.wf⟩
  have hfalse : ∀ (d : Bool) (j : Nat), j < ops.size → (Array.replicate ops.size false).getD j d = false := fun d j hj => by simp [Array.getD_eq_getD_getElem?, hj]
  have hlt : ∀ j o, ops[j]? = some o → j < ops.size := fun j o h => (Array.getElem?_eq_some_iff.1 h).1
  refine any_goR hA (fun t' H' a' w' hn hr' => ⟨t', H', hn, hr'⟩) ops.size [] pl t H [] _ t a _ (by simp) ?_
    ⟨by simp, fun i hi _ => hfalse _ i hi, by simp, by simp, by simp, by simp, by simp, fun i o ho hl => ?_, hc.2, h⟩ (fun x _ => rfl)
    ⟨S, hr.size, hr.defers.step (hst.mono hr.wf (by simp)) hst.objs0 hst.size, hr.step.trans hst (by simp), hr.own.step hst hr.wf (by simp) (by simp), hr.mine, hr.env.mono (hst.mono hr.wf (by simp))⟩
  · unfold unl
    rw [List.filter_eq_self.2]
    · simp
    · intro j hj
      have := List.mem_range.1 hj
      simp [Array.getD_eq_getD_getElem?, this]
  · rw [hfalse _ i (hlt _ _ ho)] at hl; cases hl
section
variable {t : Env} {H : Heap} {kd i : Nat} {op : Op} {ty tp : TypeId} {pos : String} {aft : Array Edge} {pend : List Pend} {d : T} {x y : Operand} {rest : Env → Heap → List Pend → Prop}
theorem cm {id : Nat} {Ψ : Exit → Env → Heap → Prop} (eff : List Nat) (pl : Plan) (h : Run K ops eff (Ψ .normal) pl t H []) (hmix : K.P.follows .mixedOrders = true := by kernel_rfl) (hc : (dstOkW ops K.n eff && planOk ops eff pl [] []) = true := by kernel_rfl) : Sim K (.region id ops true) t H Ψ := sim_plan eff pl hmix hc h
theorem m_F {F : Heap → Prop} (hp : ∀ H', F H' → POp K.P t H' ⟨some kd, op, tp, pos, aft, none⟩ d) (hF : F H) (h : rest ((kd, d) :: t) H (⟨i, ⟨some kd, op, tp, pos, aft, none⟩, d, F⟩ :: pend)) (he : memN eff i = false := by rfl) : AnyStep K ops eff i ⟨some kd, op, tp, pos, aft, none⟩ rest t H pend := by
  unfold AnyStep
  rw [he, cond_false]
  exact ⟨d, F, fun H' h' => hp H' h', hF, h⟩
theorem m_ (hp : ∀ H', POp K.P t H' ⟨some kd, op, tp, pos, aft, none⟩ d) (h : rest ((kd, d) :: t) H (⟨i, ⟨some kd, op, tp, pos, aft, none⟩, d, fun _ => True⟩ :: pend)) (he : memN eff i = false := by rfl) : AnyStep K ops eff i ⟨some kd, op, tp, pos, aft, none⟩ rest t H pend := m_F (fun H' _ => hp H') trivial h he
theorem m_lo {b o m : Nat} {ty0 : TypeId} {cells : List T} (h : rest ((kd, d) :: t) H (⟨i, ⟨some kd, .load ty x, tp, pos, aft, none⟩, d, fun H => (b, (⟨ty0, cells, m⟩ : Blk)) ∈ H⟩ :: pend)) (hx : autoParam (t.ev x = .v (.pointer (some ⟨b, o, none⟩))) zl._auto_1) (hm : autoParam ((b, (⟨ty0, cells, m⟩ : Blk)) ∈ H) zm._auto_1) (hd : cells[o]? = some d := by rfl)
    (hk : leafTy K.P ty = true := by rfl) (he : memN eff i = false := by rfl) : AnyStep K ops eff i ⟨some kd, .load ty x, tp, pos, aft, none⟩ rest t H pend := m_F (F := fun H => (b, (⟨ty0, cells, m⟩ : Blk)) ∈ H) (fun _ h' => p_lo hx h' hd hk) hm h he
theorem m_loa {b o n m : Nat} {ty0 : TypeId} {cells cs : List T} [hk : AggC K.P ty n] (h : rest ((kd, .agg cs) :: t) H (⟨i, ⟨some kd, .load ty x, tp, pos, aft, none⟩, .agg cs, fun H => (b, (⟨ty0, cells, m⟩ : Blk)) ∈ H⟩ :: pend)) (hx : autoParam (t.ev x = .v (.pointer (some ⟨b, o, none⟩))) zl._auto_1) (hm : autoParam ((b, (⟨ty0, cells, m⟩ : Blk)) ∈ H) zm._auto_1) (hc : autoParam (TakeR cells o n cs) zt._auto_1)
    (he : memN eff i = false := by rfl) : AnyStep K ops eff i ⟨some kd, .load ty x, tp, pos, aft, none⟩ rest t H pend := m_F (F := fun H => (b, (⟨ty0, cells, m⟩ : Blk)) ∈ H) (fun _ h' => p_loa hx h' hc) hm h he
theorem t_cHr {Hs Hr : Heap} {f : FuncId} {xs : Array Operand} {ats : Array TypeId} {args : List T} {Φ : T → Heap → Prop} (hf : FnH K.P f args Hs Φ) (hp : H.Perm (Hs ++ Hr))
    (hn : ∀ r H', Φ r H' → PendOk ops ⟨some kd, .call ⟨.value (.func f), xs, ats⟩, tp, pos, aft, none⟩ (H' ++ Hr) pend ∧ rest ((kd, r) :: t) (H' ++ Hr) pend) (hc : callable K.P f = true := by rfl) (ha' : autoParam (EvL t xs.toList args) ze._auto_1) (hd : Nat.blt kd K.n = true := by rfl) (he : memN eff i = true := by rfl) :
    AnyStep K ops eff i ⟨some kd, .call ⟨.value (.func f), xs, ats⟩, tp, pos, aft, none⟩ rest t H pend :=
  t_eff (fun _ h1 => eop_callH (Hr := Hr) hf hp hc (ha'.trans fun x hx => h1 x (by simp [Op.operands, Call.operands]; exact .inr (by simpa using hx))) (by simpa [okDst] using hd) fun r H' hr' => ⟨_, rfl, hn r H' hr'⟩) he
end
end Go.Cap
end
