/-
  GroupNone: replicas that are none do nothing; a committee of nobody is none.
  From the contracts to the rows: a function that only computes 'true' keeps what was there.
-/
import Derived.Test.YtjbokbikkcfjjaaGreatAbb
import Derived.Test.YtjbokbikkcfjjaaGreatAaf
import Derived.ProofKit
section
set_option maxRecDepth 16000
namespace Go.Proofs.YtjbokbikkcfjjaaGreat
open Go.Cap
set_option linter.unusedSimpArgs false
set_option linter.unusedVariables false
attribute [local irreducible] POp SimFrom DrawFrom EOp Sim FnH T.gp
theorem noneI {g : Gp} {i : Int} (hi : ¬ isI i) : tickG g i = g ∧ awayG g i true = g ∧ askedF g i = 2 := by
  refine ⟨?_, ?_, ?_⟩
  · unfold tickG thereG; simp [hi]
  · unfold awayG; rw [if_neg hi]
  · unfold askedF; rw [if_pos hi]
theorem gdoE_fn (bg : Nat) (g : Gp) (H : Heap) (i : Int) (cmd : List UInt8) (hask : ¬ askedF g i = 0) (hG : IsG bg g H) : FnH Tryz.prog 17 [pW bg, ei i, es cmd] H (fun r H' => r = ei (askedF g i) ∧ H' = H) := by
  have hAsk := gasked_fn bg g H i hG
  refine fn_enter Tryz.func17 (by rfl) (by rfl) ?_
  intro S0 w0
  show Sim _ _ [(0, pW bg), (1, ei i), (2, es cmd)] H _
  refine zC ?_
  apply cr
  refine s_ p_as ?_
  refine zC ?_
  apply cr
  refine s_ p_mv ?_
  refine s_ p_mv ?_
  refine e_cHA hAsk (fun r H' ⟨hr1, hr2⟩ => ?_)
  subst hr1 hr2
  refine s_ p_as ?_
  refine zC ?_
  apply cr
  refine s_ p_mv ?_
  refine s_ p_ne ?_
  refine zC ?_
  refine ci (p := ¬ askedF g i = 0) (fun _ => ?_) (fun h => absurd hask h)
  refine zC ?_
  apply cr
  refine s_ p_mv ?_
  refine s_ p_as ?_
  refine zC ?_
  refine zR ?_
  exact rh kR ⟨rfl, rfl⟩ (Le.refl _)
theorem gchangeE_fn (bg : Nat) (g : Gp) (H : Heap) (i : Int) (conf : Int) (hask : ¬ askedF g i = 0) (hG : IsG bg g H) : FnH Tryz.prog 27 [pW bg, ei i, ei conf] H (fun r H' => r = ei (askedF g i) ∧ H' = H) := by
  have hAsk := gasked_fn bg g H i hG
  refine fn_enter Tryz.func27 (by rfl) (by rfl) ?_
  intro S0 w0
  show Sim _ _ [(0, pW bg), (1, ei i), (2, ei conf)] H _
  refine zC ?_
  apply cr
  refine s_ p_as ?_
  refine zC ?_
  apply cr
  refine s_ p_mv ?_
  refine s_ p_mv ?_
  refine e_cHA hAsk (fun r H' ⟨hr1, hr2⟩ => ?_)
  subst hr1 hr2
  refine s_ p_as ?_
  refine zC ?_
  apply cr
  refine s_ p_mv ?_
  refine s_ p_ne ?_
  refine zC ?_
  refine ci (p := ¬ askedF g i = 0) (fun _ => ?_) (fun h => absurd hask h)
  refine zC ?_
  apply cr
  refine s_ p_mv ?_
  refine s_ p_as ?_
  refine zC ?_
  refine zR ?_
  exact rh kR ⟨rfl, rfl⟩ (Le.refl _)
def XNew (conf : Int) (r : T) (H : Heap) : Prop := ∃ p e, r = .tup [.v (.pointer p), ei e] ∧ ((p ≠ none ∧ e = 0 ∧ 1 ≤ conf ∧ conf ≤ 31) ∨ (p = none ∧ e = 1 ∧ ¬ (1 ≤ conf ∧ conf ≤ 31) ∧ H = []))
theorem xnew_fn (conf : Int) : FnH Tryz.prog 10 [ei conf] [] (XNew conf) := by
  by_cases h : 1 ≤ conf ∧ conf ≤ 31
  · refine (gnew_fn PS conf h.1 h.2).mono ?_
    rintro r H ⟨bg, g, rfl, _⟩
    exact ⟨some ⟨bg, 0, none⟩, 0, rfl, .inl ⟨by simp, rfl, h.1, h.2⟩⟩
  · refine (gnewE_fn conf h).mono ?_
    rintro r H ⟨rfl, rfl⟩
    exact ⟨none, 1, rfl, .inr ⟨rfl, rfl, h, rfl⟩⟩
theorem run_ne_ptr {P : Program} {e : TypeId} {p : Option Addr} (w : World) {ty : TypeId} (hu : P.underlying ty = some (.pointer e)) : (Op.equal ty (.pointer p) (.pointer none)).run P w = .ok (decide (p = none)) w := by
  cases p with
  | none => have := run_eq_ptrN w hu; simpa using this
  | some a => have := run_eq_ptr (a := a) w hu; simpa using this
theorem p_nPp {P : Program} {t : Env} {H : Heap} {dst : Option Tmp} {tp : TypeId} {pos : String} {aft : Array Edge} {g : Option (Nat × Bool)} {ty ty' : TypeId} {x : Operand} {p : Option Addr} {e : TypeId} (hx : autoParam (t.ev x = .v (.pointer p)) zl._auto_1) (hu : P.underlying ty = some (.pointer e) := by rfl) : POp P t H ⟨dst, .binOp .neq ty x (.const (.pointer none)) ty', tp, pos, aft, g⟩ (.v (.bool (decide (¬ p = none)))) :=
  pop_bin hx rfl fun w => by
    have := run_ne_ptr (p := p) w hu
    simp [eqGuard, binOp, this]
set_option maxHeartbeats 8000000 in
theorem gnone_fn (i0 conf : Int) : FnP Tryz.prog 6 [ei i0, ei conf] (fun r => r = .v (.bool true)) := by
  have hK := known20_fn
  have hN := gnew_fn PS 7 (by omega) (by omega)
  have hX := xnew_fn conf
  have hD := newD_fn 1 (by omega) (by omega)
  refine fn_enter Tryz.func6 (by rfl) (by rfl) ?_
  intro S0 w0
  show Sim _ _ [(0, ei i0), (1, ei conf)] _ _
  refine zC ?_
  apply cr
  refine s_ p_as ?_
  refine zC ?_
  apply cr
  refine s_ (p_ca (hK)) ?_
  refine s_ p_noB ?_
  refine zC ?_
  refine ci (p := False) (fun h => h.elim) (fun _ => ?_)
  obtain ⟨i, hi⟩ : ∃ i : Int, i = if 0 ≤ i0 ∧ i0 < 5 then i0 + 5 else i0 := ⟨_, rfl⟩
  have hno : ¬ isI i := by
    rw [hi]; unfold isI; split <;> omega
  refine zC ?_
  apply cr
  refine s_ p_mv ?_
  refine s_ p_ge ?_
  refine s_ p_mv ?_
  refine gT (fun hg => p_mv) ?_
  refine gT (fun hg => p_lt (hx := u_ hg)) ?_
  refine s_ p_an ?_
  refine zC ?_
  refine sim_cut [(0, ei i), (1, ei conf)] [] ?_ ?_
  · refine ci ?_ ?_
    · intro h
      rw [if_pos h] at hi
      subst hi
      refine zC ?_
      apply cr
      refine s_ p_mv ?_
      refine s_ p_ad ?_
      refine s_ p_as ?_
      refine zC ?_
      exact ⟨eL, kR⟩
    · intro h
      rw [if_neg h] at hi
      subst hi
      refine zC ?_
      exact ⟨eL, kR⟩
  refine zC ?_
  apply cr
  refine e_cH (Hs := []) (Hr := []) hN (.refl _) (fun r H ⟨bg, g, hr, hG, hB, hL, hpr, hcf⟩ => ?_)
  subst hr
  rw [List.append_nil]
  have hC := gcalm_fn pk_short bg g H 12 12 (by omega) hB (by omega) hG
  obtain ⟨l1, hB1, _⟩ := hB.calm pk_short.toPO 12 (by omega)
  obtain ⟨g1, hg1⟩ : ∃ g1, g1 = calmG g 12 := ⟨_, rfl⟩
  rw [← hg1] at hC hB1
  refine s_ p_mv ?_
  refine s_ p_ex ?_
  refine s_ p_ex ?_
  refine s_ p_as ?_
  refine s_ p_as ?_
  refine zC ?_
  apply cr
  refine s_ p_mv ?_
  refine e_cHA hC (fun r H1 ⟨hr1, hG1⟩ => ?_)
  subst hr1
  have hU := gunder_fn bg g1 H1 hG1
  
  refine zC ?_
  apply cr
  refine s_ p_mv ?_
  refine e_cHA hU (fun r H2 ⟨hr1, hr2⟩ => ?_)
  subst hr1 hr2
  have hT := gtick_fn pk_short bg g1 H2 i hB1 (by omega) hG1
  rw [(noneI (g := g1) hno).1] at hT
  refine s_ p_as ?_
  refine zC ?_
  apply cr
  refine s_ p_mv ?_
  refine s_ p_mv ?_
  refine e_cHA hT (fun r H3 ⟨hr1, hG3⟩ => ?_)
  subst hr1
  
  refine zC ?_
  apply cr
  refine e_cH (Hs := []) (Hr := H3) hD (.refl _) (fun r Hd ⟨bd, hr1, hr2⟩ => ?_)
  subst hr1
  refine s_ p_mv ?_
  refine s_ p_ex ?_
  refine s_ p_ex ?_
  refine s_ p_as ?_
  refine s_ p_as ?_
  refine zC ?_
  apply cr
  refine s_ p_mv ?_
  refine s_ p_eP ?_
  refine s_ p_mv ?_
  refine gF (fun hg => p_mv) ?_
  refine gF (fun hg => p_ne (hx := u_ hg)) ?_
  refine s_ p_or ?_
  refine zC ?_
  refine ci ?_ ?_
  · rintro (h | h)
    · exact h.elim
    · exact absurd rfl h
  intro _
  refine zC ?_
  apply cr
  refine s_ p_mv ?_
  refine e_cH (Hs := []) (Hr := Hd ++ H3) hX (.refl _) (fun r Hx hx => ?_)
  obtain ⟨p, e, rfl, hcase⟩ := hx
  refine s_ p_mv ?_
  refine s_ p_ex ?_
  refine s_ p_ex ?_
  refine s_ p_as ?_
  refine s_ p_as ?_
  refine zC ?_
  apply cr
  refine s_ p_mv ?_
  refine s_ p_ge ?_
  refine s_ p_mv ?_
  refine gT (fun hg => p_mv) ?_
  refine gT (fun hg => p_le (hx := u_ hg)) ?_
  refine s_ p_an ?_
  refine s_ p_as ?_
  refine zC ?_
  have hU3 := gunder_fn bg g1 H3 hG3
  have hK3 := gkeep_fn bg g1 H3 i hno hG3
  have hD3 := gdoneE_fn bg g1 H3 i hno hG3
  have hS3 := gstopE_fn bg g1 H3 i 1 hno hG3
  have hC3 := gcrashE_fn bg g1 H3 i 1 hno hG3
  have hA3 := gaway_fn bg g1 H3 i true hB1 hG3
  rw [(noneI (g := g1) hno).2.1] at hA3
  have h8 : e = 0 ↔ (1 ≤ conf ∧ conf ≤ 31) := by
    rcases hcase with ⟨_, h2, h3, h4⟩ | ⟨_, h2, h3, _⟩
    · exact ⟨fun _ => ⟨h3, h4⟩, fun _ => h2⟩
    · exact ⟨fun h => by omega, fun h => absurd h h3⟩
  have h9 : ¬ p = none ↔ (1 ≤ conf ∧ conf ≤ 31) := by
    rcases hcase with ⟨h1, _, h3, h4⟩ | ⟨h1, _, h3, _⟩
    · exact ⟨fun _ => ⟨h3, h4⟩, fun _ => h1⟩
    · exact ⟨fun h => absurd h1 h, fun h => absurd h h3⟩
  have p0 : (g1.way.length : Int) = (g1.way.length : Int) := rfl
  have p1 := And.intro p0 trivial
  have p2 := And.intro p1 (show (0 : Int) = 0 from rfl)
  have p3 := And.intro p2 (show ¬ False from fun h => h)
  have p4 := And.intro p3 (show ¬ False from fun h => h)
  have p5 := And.intro p4 hno
  have p6 := And.intro p5 (show (2 : Int) = 2 from rfl)
  have p7 := And.intro p6 (show (2 : Int) = 2 from rfl)
  have p8 := And.intro p7 h8
  have p9 := And.intro p8 h9
  refine sim_perm (H' := H3 ++ (Hx ++ Hd)) (by rw [← List.append_assoc]; exact List.perm_append_comm) ?_
  refine zC ?_
  apply cr
  refine s_ p_mv ?_
  refine e_cH hU3 (.refl _) (fun r H4 ⟨hr1, hr2⟩ => ?_)
  subst hr1 hr2
  refine s_ p_mv ?_
  refine s_ p_eq ?_
  refine s_ p_mv ?_
  refine gT (fun hg => p_mv) ?_
  refine gT (fun hg => p_mv) ?_
  refine gT_cH p0 hK3 (.refl _) (fun r H5 ⟨hr1, hr2⟩ => ?_) (ha' := evl_cons (u_ p0) (evl_cons (u_ p0) evl_nil))
  subst hr1 hr2
  refine gT (fun _ => p_eP0) ?_
  refine s_ p_an ?_
  refine s_ p_mv ?_
  refine gT (fun hg => p_mv) ?_
  refine gT (fun hg => p_mv) ?_
  refine gT_cH p1 hD3 (.refl _) (fun r H6 ⟨hr1, hr2⟩ => ?_) (ha' := evl_cons (u_ p1) (evl_cons (u_ p1) evl_nil))
  subst hr1 hr2
  refine gT (fun _ => p_lr) ?_
  refine gT (fun hg => p_eq (hx := u_ hg)) ?_
  refine s_ p_an ?_
  refine s_ p_mv ?_
  refine gT (fun hg => p_mv) ?_
  refine gT (fun hg => p_mv) ?_
  refine gT_cH p2 hS3 (.refl _) (fun r H7 ⟨hr1, hr2⟩ => ?_) (ha' := evl_cons (u_ p2) (evl_cons (u_ p2) (evl_cons ev_int evl_nil)))
  subst hr1 hr2
  refine gT (fun _ => p_no) ?_
  refine s_ p_an ?_
  refine s_ p_mv ?_
  refine gT (fun hg => p_mv) ?_
  refine gT (fun hg => p_mv) ?_
  refine gT_cH p3 hC3 (.refl _) (fun r H8 ⟨hr1, hr2⟩ => ?_) (ha' := evl_cons (u_ p3) (evl_cons (u_ p3) (evl_cons ev_int evl_nil)))
  subst hr1 hr2
  refine gT (fun _ => p_no) ?_
  refine s_ p_an ?_
  refine s_ p_mv ?_
  refine gT (fun hg => p_mv) ?_
  refine gT (fun hg => p_mv) ?_
  refine gT_cH p4 hA3 (.refl _) (fun r H9 ⟨hr1, hG9⟩ => ?_) (ha' := evl_cons (u_ p4) (evl_cons (u_ p4) (evl_cons ev_bool evl_nil)))
  subst hr1
  refine gT (fun _ => p_no (p := isI i)) ?_
  have hask : askedF g1 i = 2 := (noneI hno).2.2
  have hDo := gdoE_fn bg g1 H9 i [120] (by rw [hask]; omega) hG9
  have hCh := gchangeE_fn bg g1 H9 i 3 (by rw [hask]; omega) hG9
  rw [hask] at hDo hCh
  refine s_ p_an ?_
  refine s_ p_mv ?_
  refine gT (fun hg => p_mv) ?_
  refine gT (fun hg => p_mv) ?_
  refine gT_cH p5 hDo (.refl _) (fun r H10 ⟨hr1, hr2⟩ => ?_) (ha' := evl_cons (u_ p5) (evl_cons (u_ p5) (evl_cons ev_str evl_nil)))
  subst hr1 hr2
  refine gT (fun _ => p_eq) ?_
  refine s_ p_an ?_
  refine s_ p_mv ?_
  refine gT (fun hg => p_mv) ?_
  refine gT (fun hg => p_mv) ?_
  refine gT_cH p6 hCh (.refl _) (fun r H11 ⟨hr1, hr2⟩ => ?_) (ha' := evl_cons (u_ p6) (evl_cons (u_ p6) (evl_cons ev_int evl_nil)))
  subst hr1 hr2
  refine gT (fun _ => p_eq) ?_
  refine s_ p_an ?_
  refine s_ p_mv ?_
  refine gT (fun hg => p_mv) ?_
  refine gT (fun hg => p_eq (hx := u_ hg)) ?_
  refine gT (fun hg => p_mv) ?_
  refine gT (fun hg => p_eqB (hx := u_ hg) (hy := u_ hg)) ?_
  refine s_ p_an ?_
  refine s_ p_mv ?_
  refine gT (fun hg => p_mv) ?_
  refine gT (fun hg => p_nPp (hx := u_ hg)) ?_
  refine gT (fun hg => p_mv) ?_
  refine gT (fun hg => p_eqB (hx := u_ hg) (hy := u_ hg)) ?_
  refine s_ p_an ?_
  refine s_ p_as ?_
  refine zC ?_
  refine zE ?_
  exact Le.of_eq (by show T.v (.bool (decide _)) = T.v (.bool true); rw [decide_eq_true (by simpa using p9)])
end Go.Proofs.YtjbokbikkcfjjaaGreat
end
section
namespace Go.Cap
open Go.ChangeShapes Go.WideShapes Go.ChangeAt Go.RowKit
theorem Step.below {S S' : Nat → Prop} {w w' : World} (h : Step [] S w S' w') : Below w.heap.size w w' := ⟨h.os, h.tape, h.output, h.size, fun k hk => h.keep k hk (by simp)⟩
theorem calls_true {P : Program} {f : FuncId} {args : List T} (h : FnP P f args (fun r => r = .v (.bool true))) {w : World} {vs : List Value} (hr : RelL (fun b => b < w.heap.size) w args vs) :
    Calls P f vs.toArray w fun e w' => e = .returned (.bool true) ∧ Below w.heap.size w w' := by
  refine (h (fun b => b < w.heap.size) w vs (fun b hb => hb) (Own.nil _ _) hr).mono ?_
  rintro e w' ⟨u, S', r, H', rfl, ⟨_, rfl⟩, hrel, _, hst, _⟩
  exact ⟨by rw [hrel.v_eq], hst.below⟩
section
variable {H : Type} {enc : TypeId × Value → H} {P : Program}
theorem trodAll_below (hl : laidOutB P = true) {W W' : World} (hb : Below W.heap.size W W') : ∀ (ts : List TypeId) (vs : List Value) (ds : List (DataW H)) (ps : List MemPlace),
    (∀ t ∈ ts, P.readableRec t = true ∧ t < P.types.size) → DataW.TrodAll enc P W 0 (fun _ => true) true ts vs ds ps → (∀ x ∈ ps, x.block < W.heap.size) →
    DataW.TrodAll enc P W' 0 (fun b => decide (b < W.heap.size)) true ts vs ds ps
  | [], _, _, _, _, h, _ => by
    obtain ⟨rfl, rfl, rfl⟩ := trodAll_nil h
    exact h
  | t :: ts, _, _, _, ht, h, hp => by
    obtain ⟨v, vs1, d, ds1, a, b, rfl, rfl, rfl, h1, h2⟩ := trodAll_cons h
    refine ⟨a, b, Below.trod hl (ht t List.mem_cons_self).1 (ht t List.mem_cons_self).2 h1 hb (fun x hx => hp x (List.mem_append_left _ hx)), ?_, rfl⟩
    exact trodAll_below hl hb ts vs1 ds1 b (fun y hy => ht y (List.mem_cons_of_mem _ hy)) h2 (fun x hx => hp x (List.mem_append_right _ hx))
theorem post_true {f : Func} {s : ChangeSpec} {W W' : World} {args : Array Value} {ds gs : List (DataW H)} {before : List MemPlace} {tb : TypeId} (hl : laidOutB P = true) (hvs : s.vars = [])
    (hW : DataW.Whole enc P f.params.toList s.vars false W args.toList ds gs before) (hb : Below W.heap.size W W') (hts : (f.params.toList.all fun t => P.readableRec t && Nat.blt t P.types.size) = true)
    (hres : (s.fn H (ds ++ gs)).results = [.lit (.bool true)]) (harg : (s.fn H (ds ++ gs)).args = ds) (hvar : (s.fn H (ds ++ gs)).vars = []) (hr : f.resultTypes = #[tb]) (htb : P.underlying tb = some .bool) :
    s.post enc P f false true false false W args (.bool true) W' := by
  have hts' : ∀ t ∈ f.params.toList, P.readableRec t = true ∧ t < P.types.size := fun t ht => by
    have := List.all_eq_true.1 hts t ht
    simp only [Bool.and_eq_true] at this
    exact ⟨this.1, by simpa using this.2⟩
  have hW' := hW
  obtain ⟨p, q, hA, hV, rfl, hfz, hnd⟩ := hW
  rw [hvs] at hV
  obtain ⟨rfl, rfl⟩ := trodVars_none hV
  refine ⟨ds, [], p ++ [], [], p, [], hW', ?_, ?_, ?_, hb.frame _, fun h => by cases h⟩
  · rw [hres, hr]
    exact trodAll_mk1 (shut_bool htb true)
  · rw [harg]
    exact trodAll_below hl hb _ _ _ _ hts' hA (fun x hx => hW'.lt x (by simpa using hx))
  · rw [hvs, hvar]; rfl
end
end Go.Cap
end
