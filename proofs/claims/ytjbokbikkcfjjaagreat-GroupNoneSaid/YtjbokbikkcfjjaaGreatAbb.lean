/-
  group: Drop, Twice, Away, Keep.
  group: Calm.
  A call with more blocks beside those that it is given.
  group: wait, asked, Do, Change.
  group: asked, Do, Change.
  Chapter 20 in plain words: a committee whose disks are whole, as nodes alone.
  group: New.
  Chapter 20: the entries of a committee that is asked for short commands.
  Chapter 20's laws: within, known.
  group: Done; who is no replica.
-/
import Derived.Test.YtjbokbikkcfjjaaGreatAba
import Derived.Test.YtjbokbikkcfjjaaGreatAam
import Derived.Test.YtjbokbikkcfjjaaGreatAaw
import Derived.Test.YtjbokbikkcfjjaaGreatAaz
import Derived.Test.YtjbokbikkcfjjaaGreatAat
section
set_option maxRecDepth 16000
namespace Go.Cap
theorem mget_set {es : List (Value × T × Nat)} {k : Value} (x : T) (hg : mget es k ≠ none) (k' : Value) : mget (mset es k x) k' = if keq k k' = true then some x else mget es k' := by
  induction es with
  | nil => exact absurd rfl hg
  | cons e es ih =>
    rw [mset]
    by_cases h : keq e.1 k = true
    · rw [if_pos h, mget, mget, keq_eq h]
      split <;> rfl
    · rw [if_neg h]
      rw [mget, if_neg h] at hg
      rw [mget, mget, ih hg]
      by_cases h2 : keq k k' = true
      · have := keq_eq h2
        subst this
        rw [if_neg h, if_pos h2, if_pos h2]
      · rw [if_neg h2, if_neg h2]
theorem mget_push {es : List (Value × T × Nat)} {k : Value} (x : T) (n : Nat) (hg : mget es k = none) (k' : Value) : mget (es ++ [(k, x, n)]) k' = if keq k k' = true then some x else mget es k' := by
  induction es with
  | nil => rfl
  | cons e es ih =>
    rw [mget] at hg
    split at hg
    · cases hg
    · rename_i h
      rw [List.cons_append, mget, mget, ih hg]
      by_cases h2 : keq k k' = true
      · have := keq_eq h2
        subst this
        rw [if_neg h, if_pos h2, if_pos h2]
      · rw [if_neg h2, if_neg h2]
end Go.Cap
namespace Go.Proofs.YtjbokbikkcfjjaaGreat
open Go.Cap
set_option linter.unusedSimpArgs false
set_option linter.unusedVariables false
attribute [local irreducible] POp SimFrom DrawFrom EOp Sim FnH T.gp
theorem AwOk.set {aw : List Bool} {es : List (Value × T × Nat)} (h : AwOk aw es) (clk : Nat) {i : Int} (hi : isI i) (b : Bool) (hl : aw.length = 5) : ∃ es' clk', mput es clk (.int .i64 i) (eB b) = .map es' clk' ∧ AwOk (aw.set i.toNat b) es' := by
  have hI : MapKept.IsKey (.int .i64) (.int .i64 i) := rfl
  have hget : ∀ es', (∀ k', mget es' k' = if keq (.int .i64 i) k' = true then some (eB b) else mget es k') → ∀ j : Nat, j < 5 → (mget es' (.int .i64 (j : Int))).getD (.v (.bool false)) = eB ((aw.set i.toNat b).getD j false) := by
    intro es' he j hj
    rw [he, List.getD_eq_getElem?_getD, List.getElem?_set]
    by_cases hij : i.toNat = j
    · have : keq (.int .i64 i) (.int .i64 (j : Int)) = true := by simp [keq]; have := hi.1; omega
      rw [if_pos this, if_pos hij, if_pos (by omega)]; rfl
    · have : ¬ keq (.int .i64 i) (.int .i64 (j : Int)) = true := by simp [keq]; have := hi.1; omega
      rw [if_neg this, if_neg hij, h.get j hj, List.getD_eq_getElem?_getD]
  unfold mput
  cases hg : mget es (.int .i64 i) with
  | some y => exact ⟨_, _, rfl, h.keys.set _ _, hget _ (mget_set _ (by rw [hg]; simp))⟩
  | none => exact ⟨_, _, rfl, h.keys.push hI hg _ _, hget _ (mget_push _ _ hg)⟩
theorem gaway_fn {P : Nat → En → Prop} {τ l u : Nat} (bg : Nat) (g : Gp) (H : Heap) (i : Int) (b : Bool) (h : GB P g τ l u) (hG : IsG bg g H) : FnH Tryz.prog 20 [pW bg, ei i, eB b] H (fun r H' => r = eB (decide (isI i)) ∧ IsG bg (awayG g i b) H') := by
  have hT := gis_fn bg g H i hG
  obtain ⟨a, bm, es, clk, W, wv, hA, hO, rfl⟩ := hG
  refine fn_enter Tryz.func20 (by rfl) (by rfl) ?_
  intro S0 w0
  show Sim _ _ [(0, pW bg), (1, ei i), (2, eB b)] ((bg, ⟨tG, gC g.conf a bm wv, 13⟩) :: (bm, ⟨.map es clk, [], 0⟩) :: (W ++ gM a g.k)) _
  have hkeys := hA.keys
  refine zC ?_
  apply cr
  refine s_ p_as ?_
  refine zC ?_
  apply cr
  refine s_ p_mv ?_
  refine s_ p_mv ?_
  refine e_cHA hT (fun r H' ⟨hr1, hr2⟩ => ?_)
  subst hr1 hr2
  refine s_ p_no ?_
  refine zC ?_
  refine ci ?_ ?_
  · intro hn
    have hno : ¬ isI i := hn
    refine zC ?_
    apply cr
    refine s_ p_as ?_
    refine zC ?_
    refine zR ?_
    refine rh kR ⟨rfl, ?_⟩ ?_
    · unfold awayG; rw [if_neg hno]
      exact ⟨a, bm, es, clk, W, _, hA, hO, rfl⟩
    · exact Le.of_eq (by show T.v (.bool false) = T.v (.bool (decide (isI i))); rw [decide_eq_false hno])
  · intro hn
    have hyes : isI i := Classical.not_not.1 hn
    obtain ⟨es', clk', hput, hA'⟩ := hA.set clk hyes b h.aw
    refine zC ?_
    apply cr
    refine s_ p_mv ?_
    refine s_ p_nc ?_
    refine s_ p_fr ?_
    refine s_ p_lo ?_
    refine s_ p_mv ?_
    refine s_ p_mv ?_
    refine e_mu hkeys ?_
    refine zC ?_
    apply cr
    refine s_ p_as ?_
    refine zC ?_
    rw [hput]
    refine zR ?_
    refine rh kR ⟨rfl, ?_⟩ ?_
    · unfold awayG; rw [if_pos hyes]; exact ⟨a, bm, es', clk', W, wv, hA', hO, rfl⟩
    · exact Le.of_eq (by show T.v (.bool true) = T.v (.bool (decide (isI i))); rw [decide_eq_true hyes])
theorem gkeep_fn (bg : Nat) (g : Gp) (H : Heap) (i : Int) (hi : ¬ isI i) (hG : IsG bg g H) : FnH Tryz.prog 22 [pW bg, ei i] H (fun r H' => r = .v (.pointer none) ∧ H' = H) := by
  have hT := gis_fn bg g H i hG
  obtain ⟨a, bm, es, clk, W, wv, hA, hO, rfl⟩ := hG
  refine fn_enter Tryz.func22 (by rfl) (by rfl) ?_
  intro S0 w0
  show Sim _ _ [(0, pW bg), (1, ei i)] ((bg, ⟨tG, gC g.conf a bm wv, 13⟩) :: (bm, ⟨.map es clk, [], 0⟩) :: (W ++ gM a g.k)) _
  refine zC ?_
  apply cr
  refine s_ p_as ?_
  refine zC ?_
  apply cr
  refine s_ p_mv ?_
  refine s_ p_mv ?_
  refine e_cHA hT (fun r H' ⟨hr1, hr2⟩ => ?_)
  subst hr1 hr2
  refine s_ p_no ?_
  refine zC ?_
  refine ci (p := ¬ isI i) ?_ ?_
  · intro _
    refine zC ?_
    apply cr
    refine s_ p_as ?_
    refine zC ?_
    refine zR ?_
    exact rh kR ⟨rfl, rfl⟩ (Le.refl _)
  · intro h; exact absurd hi h
theorem gkeepY_fn (bg : Nat) (g : Gp) (i : Int) (hi : isI i) {a : Nat → Ad} {bm : Nat} {es : List (Value × T × Nat)} {clk : Nat} {W : Heap} {wv : Value} (hA : AwOk g.aw es) (hO : OM g.way wv W) : FnH Tryz.prog 22 [pW bg, ei i] (gH bg g.conf a bm es clk W wv g.k) (fun r H' => r = pW (a i.toNat).bk ∧ H' = gH bg g.conf a bm es clk W wv g.k) := by
  have hT := gis_fn bg g _ i ⟨a, bm, es, clk, W, wv, hA, hO, rfl⟩
  refine fn_enter Tryz.func22 (by rfl) (by rfl) ?_
  intro S0 w0
  show Sim _ _ [(0, pW bg), (1, ei i)] ((bg, ⟨tG, gC g.conf a bm wv, 13⟩) :: (bm, ⟨.map es clk, [], 0⟩) :: (W ++ gM a g.k)) _
  have hck := gC_k (conf := g.conf) (a := a) (bm := bm) (wv := wv) hi
  have hp : 0 ≤ i ∧ i < 5 := hi
  refine zC ?_
  apply cr
  refine s_ p_as ?_
  refine zC ?_
  apply cr
  refine s_ p_mv ?_
  refine s_ p_mv ?_
  refine e_cHA hT (fun r H' ⟨hr1, hr2⟩ => ?_)
  subst hr1 hr2
  refine s_ p_no ?_
  refine zC ?_
  refine ci (p := ¬ isI i) ?_ ?_
  · intro h; exact absurd hi h
  · intro _
    refine zC ?_
    apply cr
    refine s_ p_mv ?_
    refine s_ p_mv ?_
    refine s_ p_nc ?_
    refine s_ p_fr ?_
    refine s_ p_ar ?_
    refine s_ p_fr ?_
    refine s_ (p_lo (hd := by first | rfl | assumption)) ?_
    refine s_ p_as ?_
    refine zC ?_
    refine zR ?_
    exact rh kR ⟨rfl, rfl⟩ (Le.refl _)
end Go.Proofs.YtjbokbikkcfjjaaGreat
end
section
set_option maxRecDepth 16000
namespace Go.Proofs.YtjbokbikkcfjjaaGreat
open Go.Cap
set_option linter.unusedSimpArgs false
set_option linter.unusedVariables false
attribute [local irreducible] POp SimFrom DrawFrom EOp Sim FnH T.gp
theorem front_app : ∀ (A : Heap) {H : Heap}, HeapFront (A ++ H) H
  | [], H => kR
  | p :: A, H => .skip p _ _ (front_app A)
theorem calm_succ (g : Gp) (n : Nat) : calmG g (n + 1) = roundG (calmG g n) := rfl
def takesG (g : Gp) (k : Nat) : Gp := (g.way.take k).foldl takeG { g with way := [] }
theorem takes_succ (g : Gp) {k : Nat} (hk : k < g.way.length) : takesG g (k + 1) = takeG (takesG g k) (g.way.getD k default) := by
  unfold takesG
  rw [List.take_succ_eq_append_getElem hk, List.foldl_append, List.getD_eq_getElem?_getD, List.getElem?_eq_getElem hk]
  rfl
theorem takes_all (g : Gp) : takesG g g.way.length = g.way.foldl takeG { g with way := [] } := by unfold takesG; rw [List.take_length]
set_option maxHeartbeats 8000000 in
theorem gcalm_fn {P : Nat → En → Prop} {τ l u : Nat} (hP : PK P) (bg : Nat) (g : Gp) (H : Heap) (r : Int) (n : Nat) (hn : min (max r 0) 200 = (n : Int)) (h : GB P g τ l u) (hu : u + 5 * n ≤ 25000) (hG : IsG bg g H) : FnH Tryz.prog 11 [pW bg, ei r] H (fun r H' => r = .tup [] ∧ IsG bg (calmG g n) H') := by
  refine fn_enter Tryz.func11 (by rfl) (by rfl) ?_
  intro S0 w0
  show Sim _ _ [(0, pW bg), (1, ei r)] H _
  refine zC ?_
  apply cr
  refine s_ p_mv ?_
  refine s_ p_ma ?_
  refine s_ p_mi ?_
  refine s_ p_mv ?_
  refine zC ?_
  rw [hn]
  apply sim_loopL (σ := Nat × Heap) (ok := fun s => s.1 ≤ n ∧ IsG bg (calmG g s.1) s.2) (env := fun s => [(11, ei s.1), (10, ei n), (0, pW bg)]) (heap := fun s => s.2) (μ := fun s => n - s.1) (s0 := (0, H))
  · exact ⟨Nat.zero_le _, hG⟩
  · exact eL
  · exact kR
  rintro ⟨j, H⟩ ⟨hj, hG⟩
  simp only at hj hG
  show Sim _ _ [(11, ei j), (10, ei n), (0, pW bg)] H _
  obtain ⟨l0, hgb, _⟩ := h.calm hP.toPO j (by have := h.tau; omega)
  obtain ⟨g0, hg0⟩ : ∃ g0, g0 = calmG g j := ⟨_, rfl⟩
  rw [← hg0] at hG hgb
  have hu0 : u + 5 * j + 5 ≤ 25000 ∨ j = n := by omega
  have ht0 := hgb.tau
  refine zC ?_
  apply cr
  refine s_ p_lt ?_
  refine zC ?_
  refine ci ?_ ?_
  · intro hlt
    have hjn : j < n := by omega
    have hu1 : u + 5 * j + 5 ≤ 25000 := by omega
    obtain ⟨a, bm, es, clk, W, wv, hA, hO, rfl⟩ := hG
    obtain ⟨p, c, rfl⟩ := hO.len
    have hml : (g0.way.map ms).length = g0.way.length := List.length_map _
    show Sim _ _ _ ((bg, ⟨tG, gC g0.conf a bm _, 13⟩) :: (bm, ⟨.map es clk, [], 0⟩) :: (W ++ gM a g0.k)) _
    refine zC ?_
    apply cr
    refine s_ p_mv ?_
    refine s_ p_nc ?_
    refine s_ p_fr ?_
    refine s_ p_lo ?_
    refine s_ p_as ?_
    refine zC ?_
    apply cr
    refine s_ p_mv ?_
    refine s_ p_nc ?_
    refine s_ p_fr ?_
    refine e_st ?_
    refine zC ?_
    apply cr
    refine s_ p_mv ?_
    refine s_ p_lr ?_
    refine s_ p_mv ?_
    refine zC ?_
    refine sim_perm (H' := W ++ gH bg g0.conf a bm es clk [] (.slice none 0 0) g0.k) ?_ ?_
    · exact perm5
    apply sim_loopL (σ := Nat × Heap) (ok := fun s => s.1 ≤ g0.way.length ∧ IsG bg (takesG g0 s.1) s.2) (env := fun s => [(22, ei s.1), (21, ei g0.way.length), (20, .v (.slice p (g0.way.map ms).length c)), (11, ei j), (10, ei n), (0, pW bg)]) (heap := fun s => W ++ s.2) (μ := fun s => g0.way.length - s.1) (s0 := (0, gH bg g0.conf a bm es clk [] (.slice none 0 0) g0.k))
    · exact ⟨Nat.zero_le _, IsG.out (a := a) (bm := bm) (clk := clk) (w := []) hA osl_nil⟩
    · refine ⟨?_, ?_, eL⟩
      · apply le_get; ((repeat (apply gS; rfl)); exact gZ)
        exact Le.refl _
      · apply le_get; ((repeat (apply gS; rfl)); exact gZ)
        exact Le.of_eq (by rw [hml]; rfl)
    · exact kR
    · rintro ⟨k, H⟩ ⟨hk, hG⟩
      simp only at hk hG
      show Sim _ _ [(22, ei k), (21, ei g0.way.length), (20, .v (.slice p (g0.way.map ms).length c)), (11, ei j), (10, ei n), (0, pW bg)] (W ++ H) _
      refine zC ?_
      apply cr
      refine s_ p_lt ?_
      refine zC ?_
      refine ci ?_ ?_
      · intro hlt2
        have hkl : k < g0.way.length := by omega
        have hmany := hgb.many
        have hfive := hgb.five
        have hhas : hasG g0 (k : Int) := ⟨by omega, by omega⟩
        obtain ⟨_, hkn, hget⟩ := at_way hhas
        obtain ⟨bw, rfl, _, rfl⟩ := way_row hO (by omega)
        obtain ⟨m, hm⟩ : ∃ m, m = g0.way.getD k default := ⟨_, rfl⟩
        have hmem : g0.way.getD k default ∈ g0.way := by
          rw [List.getD_eq_getElem?_getD, List.getElem?_eq_getElem hkl]; exact List.getElem_mem _
        obtain ⟨lk, hgk, hlk⟩ := GB.takes hP.toPO (by omega) (g0.way.take k) (hgb.out (w := []) (by simp) (by simp)) (fun x hx => hgb.way x (List.mem_of_mem_take hx)) (by have := hgb.many; rw [List.length_take]; simp only [List.length_nil]; omega)
        have hmb := (hgb.way _ hmem).le (Nat.le_refl _) hlk
        have htk := gtake_fn hP bg (takesG g0 k) H m (by rw [hm]; exact hmb) hgk (by omega) hG
        rw [show ((k : Int).toNat) = k by omega, ← hm] at hget
        show Sim _ _ _ ((bw, ⟨tM, (g0.way.map ms).flatMap T.cells, c * 11⟩) :: H) _
        refine zC ?_
        apply cr
        refine s_ p_ir ?_
        refine s_ (p_loa (hc := TakeR.flat (ms11 g0.way) hget)) ?_
        refine e_al fun b6 _ => ?_
        refine e_st ?_
        refine zC ?_
        apply cr
        refine s_ p_mv ?_
        refine s_ p_loa ?_
        refine e_cH (Hr := [_, _]) htk (List.perm_append_comm (l₁ := [_, _])) (fun r H' ⟨hr1, hr2⟩ => ?_)
        subst hr1
        refine from_perm (List.perm_append_comm (l₂ := [_, _])) ?_
        
        refine zC ?_
        apply cr
        refine s_ p_ad ?_
        refine s_ p_mv ?_
        refine zC ?_
        refine ⟨(k + 1, H'), ⟨by simp only; omega, ?_⟩, (by simp only []; omega), ⟨?_, eL⟩, ?_⟩
        · simp only
          rw [takes_succ _ hkl, ← hm]; exact hr2
        · apply le_get; ((repeat (apply gS; rfl)); exact gZ)
          exact Le.refl _
        · exact .skip _ _ _ kR
      · intro hge
        have hke : k = g0.way.length := by omega
        subst hke
        rw [takes_all] at hG
        obtain ⟨l1, hg1, hl1⟩ := GB.takes hP.toPO (by omega) g0.way (hgb.out (w := []) (by simp) (by simp)) hgb.way (by simpa using hgb.many)
        obtain ⟨g1, hg1e⟩ : ∃ g1, g1 = g0.way.foldl takeG { g0 with way := [] } := ⟨_, rfl⟩
        rw [← hg1e] at hG hg1
        refine zC ?_
        apply cr
        refine s_ p_mv ?_
        refine zC ?_
        apply sim_loopL (σ := Nat × Heap) (ok := fun s => s.1 ≤ 5 ∧ IsG bg (ticksG g1 s.1) s.2) (env := fun s => [(30, ei s.1), (11, ei j), (10, ei n), (0, pW bg)]) (heap := fun s => s.2) (μ := fun s => 5 - s.1) (s0 := (0, H))
        · exact ⟨Nat.zero_le _, hG⟩
        · exact eL
        · exact front_app W
        · rintro ⟨q, H⟩ ⟨hq, hG⟩
          simp only at hq hG
          show Sim _ _ [(30, ei q), (11, ei j), (10, ei n), (0, pW bg)] H _
          refine zC ?_
          apply cr
          refine s_ p_lt ?_
          refine zC ?_
          refine ci ?_ ?_
          · intro hlt3
            have hq5 : q < 5 := by omega
            obtain ⟨lq, hgq, _⟩ := hg1.ticks hP.toPO q (by omega)
            have htk := gtick_fn hP bg (ticksG g1 q) H q hgq (by omega) hG
            refine zC ?_
            apply cr
            refine s_ p_mv ?_
            refine s_ p_as ?_
            refine zC ?_
            apply cr
            refine s_ p_mv ?_
            refine s_ p_mv ?_
            refine e_cHA htk (fun r H' ⟨hr1, hr2⟩ => ?_)
            subst hr1
            
            refine zC ?_
            apply cr
            refine s_ p_ad ?_
            refine s_ p_mv ?_
            refine zC ?_
            refine ⟨(q + 1, H'), ⟨by simp only; omega, ?_⟩, (by simp only []; omega), ⟨?_, eL⟩, kR⟩
            · simp only
              rw [ticks_succ]; exact hr2
            · apply le_get; ((repeat (apply gS; rfl)); exact gZ)
              exact Le.refl _
          · intro hge3
            have hq5 : q = 5 := by omega
            subst hq5
            refine zC ?_
            apply cr
            refine s_ p_ad ?_
            refine s_ p_mv ?_
            refine zC ?_
            refine ⟨(j + 1, H), ⟨by simp only; omega, ?_⟩, (by simp only []; omega), ⟨?_, eL⟩, kR⟩
            · simp only
              rw [calm_succ, ← hg0]
              unfold roundG
              rw [← hg1e]; exact hG
            · apply le_get; ((repeat (apply gS; rfl)); exact gZ)
              exact Le.refl _
  · intro hge
    have hje : j = n := by omega
    subst hje
    refine zC ?_
    refine rhn kR ⟨rfl, ?_⟩ (Le.refl _)
    rw [← hg0]; exact hG
end Go.Proofs.YtjbokbikkcfjjaaGreat
end
section
namespace Go.Cap
theorem FnH.framed {P : Program} {f : FuncId} {args : List T} {H Hs Hr : Heap} {Φ Ψ : T → Heap → Prop} (hf : FnH P f args Hs Φ) (hp : H.Perm (Hs ++ Hr)) (hΦ : ∀ r H1, Φ r H1 → ∃ H', (H1 ++ Hr).Perm H' ∧ Ψ r H') : FnH P f args H Ψ := by
  intro S w vs hw ho hr
  have hoP := ho.perm hp
  refine (hf S w vs hw hoP.left hr).mono ?_
  rintro e w' ⟨u, S', r, H1, rfl, hΦ', hrel, hown, hst, hkeys⟩
  obtain ⟨H', hP, hΨ⟩ := hΦ r H1 hΦ'
  have hsS : ∀ b ∈ keys Hs, ¬ S b := hoP.left.apart
  have hm := hst.mono hw hsS
  have hownA : Own S' w' (H1 ++ Hr) := by
    refine ⟨?_, ?_, ?_⟩
    · rw [keys_append]
      refine List.nodup_append.2 ⟨hown.nodup, hoP.right.nodup, fun b hb c hc' e => ?_⟩
      subst e
      rcases hkeys b hb with h1 | h1
      · exact hoP.disj b h1 hc'
      · have := hoP.right.lt b hc'; omega
    · intro b hb hS
      rw [keys_append] at hb
      rcases List.mem_append.1 hb with hb | hb
      · exact hown.apart b hb hS
      · rcases hst.new b hS with h1 | h1 | h1
        · exact hoP.right.apart b hb h1
        · have := hoP.right.lt b hb; omega
        · exact hoP.disj b h1 hb
    · intro p hp'
      rcases List.mem_append.1 hp' with hp' | hp'
      · exact hown.has p hp'
      · have hk' : p.1 ∈ keys Hr := List.mem_map.2 ⟨p, hp', rfl⟩
        have h1 := hoP.right.has p hp'
        exact h1.mono (hst.keep _ h1.lt (fun h => hoP.disj _ h hk')) hm
  have hkp : ∀ b, b ∈ keys H ↔ b ∈ keys (Hs ++ Hr) := fun b => (keys_perm hp).mem_iff
  refine ⟨u, S', r, H', rfl, hΨ, hrel, hownA.perm hP, hst.weaken fun b hb => .inl ((hkp b).2 (by rw [keys_append]; exact List.mem_append_left _ hb)), fun b hb => ?_⟩
  have hb' : b ∈ keys (H1 ++ Hr) := (keys_perm hP).mem_iff.2 hb
  rw [keys_append] at hb'
  rcases List.mem_append.1 hb' with h | h
  · rcases hkeys b h with h1 | h1
    · exact .inl ((hkp b).2 (by rw [keys_append]; exact List.mem_append_left _ h1))
    · exact .inr h1
  · exact .inl ((hkp b).2 (by rw [keys_append]; exact List.mem_append_right _ h))
end Go.Cap
end
section
set_option maxRecDepth 16000
namespace Go.Proofs.YtjbokbikkcfjjaaGreat
open Go.Cap
set_option linter.unusedSimpArgs false
set_option linter.unusedVariables false
attribute [local irreducible] POp SimFrom DrawFrom EOp Sim FnH T.gp
theorem gnode_fn {bg : Nat} {g : Gp} {a : Nat → Ad} {bm : Nat} {es : List (Value × T × Nat)} {clk : Nat} {W : Heap} {wv : Value} {i : Nat} (hi : i < 5) (hl : (g.k i).N.log.length ≤ 1000000000) :
    FnH Tryz.prog 23 [pW (a i).bk] (gH bg g.conf a bm es clk W wv g.k) (fun r H' => r = nd (g.k i).N ∧ H' = gH bg g.conf a bm es clk W wv g.k) := by
  have hk := kNode_fn (a i).bk (a i).bj (a i).bd (g.k i) hl
  have hperm := perm3 (x := (bg, ⟨tG, gC g.conf a bm wv, 13⟩)) (y := (bm, ⟨.map es clk, [], 0⟩)) (W := W) (gM_at a g.k hi)
  exact FnH.framed hk hperm (fun r H1 ⟨h1, h2⟩ => ⟨_, by rw [h2]; exact hperm.symm, h1, rfl⟩)
end Go.Proofs.YtjbokbikkcfjjaaGreat
end
section
set_option maxRecDepth 16000
namespace Go.Proofs.YtjbokbikkcfjjaaGreat
open Go.Cap
set_option linter.unusedSimpArgs false
set_option linter.unusedVariables false
attribute [local irreducible] POp SimFrom DrawFrom EOp Sim FnH T.gp
theorem gasked_fn (bg : Nat) (g : Gp) (H : Heap) (i : Int) (hG : IsG bg g H) : FnH Tryz.prog 38 [pW bg, ei i] H (fun r H' => r = ei (askedF g i) ∧ H' = H) := by
  have hI := gis_fn bg g H i hG
  have hT := gthere_fn bg g H i hG
  obtain ⟨q, iq, hq⟩ := decB (b := thereG g i)
  rw [hq] at hT
  refine fn_enter Tryz.func38 (by rfl) (by rfl) ?_
  intro S0 w0
  show Sim _ _ [(0, pW bg), (1, ei i)] H _
  refine zC ?_
  apply cr
  refine s_ p_as ?_
  refine zC ?_
  apply cr
  refine s_ p_mv ?_
  refine s_ p_mv ?_
  refine e_cHA hI (fun r H' ⟨hr1, hr2⟩ => ?_)
  subst hr1 hr2
  refine s_ p_no ?_
  refine s_ p_as ?_
  refine zC ?_
  refine ci (p := ¬ isI i) ?_ ?_
  · intro hn
    refine zC ?_
    apply cr
    refine s_ p_as ?_
    refine zC ?_
    refine zR ?_
    refine rh kR ⟨rfl, rfl⟩ ?_
    exact Le.of_eq (congrArg ei (by unfold askedF; rw [if_pos hn]))
  intro hn
  refine zC ?_
  apply cr
  refine s_ p_mv ?_
  refine s_ p_mv ?_
  refine e_cHA hT (fun r H' ⟨hr1, hr2⟩ => ?_)
  subst hr1 hr2
  refine s_ p_no ?_
  refine s_ p_as ?_
  refine zC ?_
  refine ci (p := ¬ q) ?_ ?_
  · intro hnq
    refine zC ?_
    apply cr
    refine s_ p_as ?_
    refine zC ?_
    refine zR ?_
    refine rh kR ⟨rfl, rfl⟩ ?_
    exact Le.of_eq (congrArg ei (by unfold askedF; rw [if_neg hn, if_pos (by rw [hq]; simpa using hnq)]))
  · intro hnq
    refine zC ?_
    apply cr
    refine s_ p_as ?_
    refine zC ?_
    refine zR ?_
    refine rh kR ⟨rfl, rfl⟩ ?_
    exact Le.of_eq (congrArg ei (by unfold askedF; rw [if_neg hn, if_neg (by rw [hq]; simpa using hnq)]))
def PutBy (P : Nat → En → Prop) (N t : Nd) (e : Int) : Prop := (¬ e = 0 ∧ t = N) ∨ (e = 0 ∧ N.role = 2 ∧ ∃ en, t = putF N en ∧ P N.log.length ⟨N.term, en.conf, en.cmd⟩)
section
variable {P : Nat → En → Prop} {g : Gp} {τ l u : Nat}
theorem PutBy.nb {N t : Nd} {e : Int} (h : NB P N τ l) (hb : PutBy P N t e) : NB P t τ (l + 1) ∧ Go.Proofs.YtjbokbikkcfjjaaGreat.pot t ≤ Go.Proofs.YtjbokbikkcfjjaaGreat.pot N := by
  rcases hb with ⟨_, rfl⟩ | ⟨_, hr, en, rfl, hp⟩
  · exact ⟨h.le (Nat.le_refl _) (by omega), Nat.le_refl _⟩
  · exact h.put hr hp
theorem PutBy.id {N t : Nd} {e : Int} (hb : PutBy P N t e) : t.id = N.id := by
  rcases hb with ⟨_, rfl⟩ | ⟨_, hr, en, rfl, hp⟩
  · rfl
  · exact commitF_id (putN N en)
theorem putG_eq (g : Gp) (i : Nat) (t : Nd) (e : Int) : putG g i t e = { g with ks := g.ks.set i (keepF (g.k i) t e).1, way := g.way ++ [] } := by unfold putG; rw [List.append_nil]
theorem GB.put (h : GB P g τ l u) {i : Nat} (hi : i < 5) {t : Nd} {e : Int} (hb : PutBy P (g.k i).N t e) : ∃ l', GB P (putG g i t e) τ l' (u + 5) ∧ l ≤ l' := by
  obtain ⟨h1, h2⟩ := keep_ki (h.ki i hi) t e
  have hn := h.nb i hi
  obtain ⟨n1, n2⟩ := hb.nb hn
  have hg : (keepF (g.k i) t e).1.N = t ∨ (keepF (g.k i) t e).1.N = (g.k i).N := by
    split at h2
    · exact .inl h2
    · exact .inr h2
  have hil : i < g.ks.length := by rw [h.ks]; exact hi
  have hk : g.ks[i] = g.k i := by unfold Gp.k; rw [List.getD_eq_getElem?_getD, List.getElem?_eq_getElem hil, Option.getD_some]
  rw [putG_eq]
  refine ⟨l + 1, ⟨by simp [h.ks], h.aw, fun j hj => ?_, fun j hj => ?_, fun j hj => ?_, fun m hm => ?_, ?_, ?_, by have := h.tau; omega⟩, by omega⟩
  · rw [Gp.k_set (by rw [h.ks]; exact hj)]; split
    · exact h1
    · exact h.ki j hj
  · rw [Gp.k_set (by rw [h.ks]; exact hj)]; split
    · rename_i e0; subst e0
      rcases hg with e1 | e1
      · rw [e1, hb.id]; exact h.id i hi
      · rw [e1]; exact h.id i hi
    · exact h.id j hj
  · rw [Gp.k_set (by rw [h.ks]; exact hj)]; split
    · rcases hg with e1 | e1
      · rw [e1]; exact n1
      · rw [e1]; exact hn.le (Nat.le_refl _) (by omega)
    · exact (h.nb j hj).le (Nat.le_refl _) (by omega)
  · rw [List.append_nil] at hm
    exact (h.way m hm).le (Nat.le_refl _) (by omega)
  · have := h.many; simp only [List.append_nil]; omega
  · have := set_sum (fun K => Go.Proofs.YtjbokbikkcfjjaaGreat.pot K.N) g.ks i (keepF (g.k i) t e).1 hil
    rw [hk] at this
    have hf := h.fuel
    have hpn : Go.Proofs.YtjbokbikkcfjjaaGreat.pot (keepF (g.k i) t e).1.N ≤ Go.Proofs.YtjbokbikkcfjjaaGreat.pot (g.k i).N := by
      rcases hg with e1 | e1
      · rw [e1]; exact n2
      · rw [e1]; exact Nat.le_refl _
    simp only at this ⊢
    omega
end
end Go.Proofs.YtjbokbikkcfjjaaGreat
end
section
set_option maxRecDepth 16000
namespace Go.Proofs.YtjbokbikkcfjjaaGreat
open Go.Cap
structure Gn where
  ns : List Nd
  aw : List Bool
  way : List Ms
def Gn.n (g : Gn) (i : Nat) : Nd := g.ns.getD i default
def thN (g : Gn) (i : Int) : Bool := decide (isI i) && !(g.aw.getD i.toNat false)
def didN (g : Gn) (i : Nat) (t : Nd) (l : List Ms) : Gn := { g with ns := g.ns.set i t, way := g.way ++ l }
def tickN (g : Gn) (i : Int) : Gn := if thN g i then didN g i.toNat (tickF (g.n i.toNat)).1 (tickF (g.n i.toNat)).2 else g
def takeN (g : Gn) (m : Ms) : Gn := if thN g m.to then didN g m.to.toNat (takeF (g.n m.to.toNat) m).1 (takeF (g.n m.to.toNat) m).2 else g
def ticksN (g : Gn) (k : Nat) : Gn := (List.range k).foldl (fun g (i : Nat) => tickN g (i : Int)) g
def roundN (g : Gn) : Gn := ticksN (g.way.foldl takeN { g with way := [] }) 5
def calmN (g : Gn) : Nat → Gn
  | 0 => g
  | n + 1 => roundN (calmN g n)
def newN (conf : Int) : Gn := ⟨(List.range 5).map fun (i : Nat) => newF (i : Int) conf, [false, false, false, false, false], []⟩
def prG (g : Gp) : Gn := ⟨g.ks.map (·.N), g.aw, g.way⟩
structure LiveK (n0 : Nd) (K : Kp) : Prop where
  live : Live n0 524100 K
  left : K.d.left = 0
  room : K.d.room = 1048576
def GL (conf : Int) (g : Gp) : Prop := ∀ i : Nat, i < 5 → LiveK (newF i conf) (g.k i)
section
variable {P : Nat → En → Prop} {g : Gp} {τ l u : Nat} {conf : Int}
theorem prG_n (g : Gp) (i : Nat) (hi : i < g.ks.length) : (prG g).n i = (g.k i).N := by
  unfold Gn.n prG Gp.k
  simp [List.getD_eq_getElem?_getD, hi]
theorem GL.there (h : GL conf g) (i : Int) : thereG g i = thN (prG g) i := by
  unfold thereG thN
  by_cases hi : isI i
  · have := (h _ (isI_nat hi).1).live.dead
    rw [this]; simp [prG]
  · simp [hi]
theorem LiveK.keep {n0 : Nd} {K : Kp} (h : LiveK n0 K) {t : Nd} (hid : t.id = n0.id) (hsz : Sz t) (hr : (recB t 0).length ≤ 524100) : (keepF K t 0).2 = 0 ∧ LiveK n0 (keepF K t 0).1 ∧ (keepF K t 0).1.N = t := by
  obtain ⟨K', h1, h2, h3, h4, h5⟩ := live_step h.live h.left (by rw [h.room]; omega) hid hsz hr (by omega)
  rw [h1]
  exact ⟨rfl, ⟨h2, h4, by rw [h5]; exact h.room⟩, h3⟩
theorem GL.set (h : GL conf g) (hks : g.ks.length = 5) {i : Nat} {K : Kp} (w : List Ms) (hK : LiveK (newF i conf) K) : GL conf { g with ks := g.ks.set i K, way := w } := by
  intro j hj
  rw [Gp.k_set (by rw [hks]; exact hj)]
  split
  · rename_i e; subst e; exact hK
  · exact h j hj
theorem GL.did (h : GL conf g) (hks : g.ks.length = 5) {i : Nat} (hi : i < 5) {t : Nd} {out : List Ms} (hid : t.id = i) (hsz : Sz t) (hr : (recB t 0).length ≤ 524100) : GL conf (didG g i t out) ∧ prG (didG g i t out) = didN (prG g) i t out := by
  obtain ⟨h1, h2, h3⟩ := (h i hi).keep (t := t) (by rw [hid]; rfl) hsz hr
  unfold didG
  rw [if_pos h1]
  refine ⟨h.set hks _ h2, ?_⟩
  unfold prG didN
  simp only [List.map_set, h3]
theorem GL.tick (hP : PK P) (h : GL conf g) (hb : GB P g τ l u) (hu : u + 1 ≤ 25000) (i : Int) : GL conf (tickG g i) ∧ prG (tickG g i) = tickN (prG g) i := by
  unfold tickG tickN
  rw [h.there]
  split
  · rename_i hth
    have hth' : thereG g i = true := by rw [h.there]; exact hth
    obtain ⟨h5, _⟩ := isI_nat (thereG_is hth')
    have hw := (hb.nb _ h5).tick hP.toPO (by have := hb.tau; omega)
    obtain ⟨hsz, hrc⟩ := hw.sz hP (by have := hb.pot h5; omega) (by have := hb.tau; omega)
    rw [prG_n g _ (by rw [hb.ks]; exact h5)]
    exact h.did hb.ks h5 ((tickF_id _).trans (hb.id _ h5)) hsz hrc
  · exact ⟨h, rfl⟩
theorem GL.take (hP : PK P) (h : GL conf g) (hb : GB P g τ l u) (hu : u ≤ 25000) {m : Ms} (hm : MB P m τ l) : GL conf (takeG g m) ∧ prG (takeG g m) = takeN (prG g) m := by
  unfold takeG takeN
  rw [h.there]
  split
  · rename_i hth
    have hth' : thereG g m.to = true := by rw [h.there]; exact hth
    obtain ⟨h5, _⟩ := isI_nat (thereG_is hth')
    have hw := (hb.nb _ h5).take hP.toPO hm (by have := hb.tau; omega)
    obtain ⟨hsz, hrc⟩ := hw.sz hP (by have := hb.pot h5; omega) (by have := hb.tau; omega)
    rw [prG_n g _ (by rw [hb.ks]; exact h5)]
    exact h.did hb.ks h5 ((takeF_id _ _).trans (hb.id _ h5)) hsz hrc
  · exact ⟨h, rfl⟩
theorem GL.takes (hP : PK P) (hu : u ≤ 25000) : ∀ (ms : List Ms) {g : Gp} {l : Nat}, GL conf g → GB P g τ l u → (∀ m ∈ ms, MB P m τ l) → g.way.length + ms.length ≤ 5 * (u + l) → GL conf (ms.foldl takeG g) ∧ prG (ms.foldl takeG g) = ms.foldl takeN (prG g)
  | [], g, l, h, _, _, _ => ⟨h, rfl⟩
  | m :: ms, g, l, h, hb, hm, hw => by
    rw [List.length_cons] at hw
    have ht := hb.tau
    obtain ⟨h1, h2⟩ := h.take hP hb hu (hm m List.mem_cons_self)
    obtain ⟨l1, h3, h4, h5⟩ := hb.take hP.toPO (by omega) (hm m List.mem_cons_self) (by omega)
    obtain ⟨h6, h7⟩ := GL.takes hP hu ms h1 h3 (fun x hx => (hm x (List.mem_cons_of_mem _ hx)).le (Nat.le_refl _) h4) (by omega)
    exact ⟨h6, by rw [List.foldl_cons, h7, h2, List.foldl_cons]⟩
theorem ticksN_succ (g : Gn) (k : Nat) : ticksN g (k + 1) = tickN (ticksN g k) (k : Int) := by
  unfold ticksN
  rw [List.range_succ, List.foldl_append]
  rfl
theorem GL.ticks (hP : PK P) (h : GL conf g) (hb : GB P g τ l u) : ∀ k : Nat, u + k ≤ 25000 → GL conf (ticksG g k) ∧ prG (ticksG g k) = ticksN (prG g) k
  | 0, _ => ⟨h, rfl⟩
  | k + 1, hu => by
    have ht := hb.tau
    obtain ⟨h1, h2⟩ := GL.ticks hP h hb k (by omega)
    obtain ⟨l1, h3, _⟩ := hb.ticks hP.toPO k (by omega)
    obtain ⟨h4, h5⟩ := h1.tick hP h3 (by omega) (k : Int)
    rw [ticks_succ, ticksN_succ, h5, h2]
    exact ⟨h4, rfl⟩
theorem GL.out (h : GL conf g) (w : List Ms) : GL conf { g with way := w } := h
theorem GL.round (hP : PK P) (h : GL conf g) (hb : GB P g τ l u) (hu : u + 5 ≤ 25000) : GL conf (roundG g) ∧ prG (roundG g) = roundN (prG g) := by
  have ht := hb.tau
  have hb0 := hb.out (w := []) (by simp) (by simp)
  obtain ⟨h1, h2⟩ := GL.takes hP (by omega) g.way (h.out []) hb0 hb.way (by simpa using hb.many)
  obtain ⟨l1, h3, _⟩ := GB.takes hP.toPO (by omega) g.way hb0 hb.way (by simpa using hb.many)
  obtain ⟨h4, h5⟩ := h1.ticks hP h3 5 (by omega)
  unfold roundG roundN
  exact ⟨h4, by rw [h5, h2]; rfl⟩
theorem GL.calm (hP : PK P) (h : GL conf g) (hb : GB P g τ l u) : ∀ k : Nat, u + 5 * k ≤ 25000 → GL conf (calmG g k) ∧ prG (calmG g k) = calmN (prG g) k
  | 0, _ => ⟨h, rfl⟩
  | k + 1, hu => by
    have ht := hb.tau
    obtain ⟨h1, h2⟩ := GL.calm hP h hb k (by omega)
    obtain ⟨l1, h3, _⟩ := hb.calm hP.toPO k (by omega)
    obtain ⟨h4, h5⟩ := h1.round hP h3 (by omega)
    exact ⟨h4, by show prG (roundG (calmG g k)) = _; rw [h5, h2]; rfl⟩
end
theorem known30 : ((calmN (newN 7) 30).n 0).role = 2 := by decide +kernel
end Go.Proofs.YtjbokbikkcfjjaaGreat
end
section
set_option maxRecDepth 16000
namespace Go.Proofs.YtjbokbikkcfjjaaGreat
open Go.Cap
set_option linter.unusedSimpArgs false
set_option linter.unusedVariables false
attribute [local irreducible] POp SimFrom DrawFrom EOp Sim FnH T.gp
def d0 : Dk := ⟨0, 0, false, [], 0, [], 1048576⟩
theorem new_sz {id conf : Int} (h0 : 0 ≤ id) (h1 : id < 5) (h2 : 0 ≤ conf) (h3 : conf ≤ 31) : Sz (newF id conf) ∧ (recB (newF id conf) 0).length ≤ 524100 := by
  have hk := new_nk h0 h1 h2 h3
  exact ⟨hk.sz (by omega), by have := hk.rec_; omega⟩
theorem gopen_fn (bd : Nat) (id conf : Int) (h0 : 0 ≤ id) (h1 : id < 5) (h2 : 0 ≤ conf) (h3 : conf ≤ 31) :
    FnH Tryz.prog 34 [pW bd, ei id, ei conf] (DkH bd d0) (fun r H => ∃ bk bj K2, r = .tup [pW bk, ei 0] ∧ H = mH ⟨bd, bk, bj⟩ K2 ∧ LiveK (newF id conf) K2 ∧ K2.N = newF id conf) := by
  obtain ⟨s1, s2⟩ := new_sz h0 h1 h2 h3
  have hl := new_live (n0 := newF id conf) (R := 524100) 1048576 rfl s1 s2 (by omega) (by omega)
  refine FnH.mono (open_live bd id conf hl rfl (new_fn id conf h0 h1 h2 h3) rfl (by simp [newF]) (by omega) s1 s2) ?_
  rintro r H ⟨bk, bj, K2, e1, e2, e3, e4, e5⟩
  exact ⟨bk, bj, K2, e1, e2, ⟨e3, by rw [e5], by rw [e5]⟩, e4⟩
def gN (conf : Int) (a : Nat → Ad) (n : Nat) (bm : Nat) : List T :=
  let p := fun (j : Nat) (x : Nat) => if j < n then pW x else .v (.pointer none)
  [ei conf, p 0 (a 0).bd, p 0 (a 0).bk, p 1 (a 1).bd, p 1 (a 1).bk, p 2 (a 2).bd, p 2 (a 2).bk, p 3 (a 3).bd, p 3 (a 3).bk, p 4 (a 4).bd, p 4 (a 4).bk, .v (.map (some bm)), .v (.slice none 0 0)]
theorem gN_up (conf : Int) (a : Nat → Ad) {n : Nat} (hn : n < 5) (bm : Nat) (x : Ad) : LayR (gN conf a n bm) (0 + 1 + ((n : Nat) : Int).toNat * 2) [pW x.bd, pW x.bk] (gN conf (upA a n x) (n + 1) bm) := by
  have h : ∀ n : Fin 5, LayR (gN conf a n.val bm) (0 + 1 + ((n.val : Nat) : Int).toNat * 2) [pW x.bd, pW x.bk] (gN conf (upA a n.val x) (n.val + 1) bm) := by
    intro n
    match n with
    | 0 => show LayR _ 1 _ _; unfold gN upA; ((repeat (apply LayR.skip)); (repeat (apply LayR.cons)); exact LayR.nil _)
    | 1 => show LayR _ 3 _ _; unfold gN upA; ((repeat (apply LayR.skip)); (repeat (apply LayR.cons)); exact LayR.nil _)
    | 2 => show LayR _ 5 _ _; unfold gN upA; ((repeat (apply LayR.skip)); (repeat (apply LayR.cons)); exact LayR.nil _)
    | 3 => show LayR _ 7 _ _; unfold gN upA; ((repeat (apply LayR.skip)); (repeat (apply LayR.cons)); exact LayR.nil _)
    | 4 => show LayR _ 9 _ _; unfold gN upA; ((repeat (apply LayR.skip)); (repeat (apply LayR.cons)); exact LayR.nil _)
  exact h ⟨n, hn⟩
def gMk (a : Nat → Ad) (k : Nat → Kp) (n : Nat) : Heap := (List.range n).flatMap fun j => mH (a j) (k j)
theorem gMk_succ (a : Nat → Ad) (k : Nat → Kp) (n : Nat) (x : Ad) (K : Kp) : gMk (upA a n x) (upA k n K) (n + 1) = gMk a k n ++ mH x K := by
  unfold gMk
  rw [List.range_succ, List.flatMap_append, List.flatMap_cons, List.flatMap_nil, List.append_nil]
  congr 1
  · have h : ∀ l : List Nat, (∀ j ∈ l, j < n) → (l.flatMap fun j => mH (upA a n x j) (upA k n K j)) = l.flatMap fun j => mH (a j) (k j) := by
      intro l
      induction l with
      | nil => intro _; rfl
      | cons j l ih =>
        intro hl
        have hj := hl j List.mem_cons_self
        rw [List.flatMap_cons, List.flatMap_cons, ih fun y hy => hl y (List.mem_cons_of_mem _ hy)]
        unfold upA
        rw [if_neg (by omega), if_neg (by omega)]
    exact h _ fun j hj => List.mem_range.1 hj
  · simp [upA]
def newG (conf : Int) (k : Nat → Kp) : Gp := ⟨conf, (List.range 5).map k, [false, false, false, false, false], []⟩
theorem newG_k (conf : Int) (k : Nat → Kp) {i : Nat} (hi : i < 5) : (newG conf k).k i = k i := by
  unfold newG Gp.k
  simp only [List.getD_eq_getElem?_getD, List.getElem?_map, List.getElem?_range hi, Option.map_some, Option.getD_some]
theorem gnewE_fn (conf : Int) (h : ¬ (1 ≤ conf ∧ conf ≤ 31)) : FnH Tryz.prog 10 [ei conf] [] (fun r H => r = .tup [.v (.pointer none), ei 1] ∧ H = []) := by
  refine fn_enter Tryz.func10 (by rfl) (by rfl) ?_
  intro S0 w0
  show Sim _ _ [(0, ei conf)] [] _
  refine zC ?_
  apply cr
  refine s_ p_as ?_
  refine s_ p_as ?_
  refine zC ?_
  apply cr
  refine s_ p_mv ?_
  refine s_ p_lt ?_
  refine s_ p_mv ?_
  refine gF (fun hg => p_mv) ?_
  refine gF (fun hg => p_gt (hx := u_ hg)) ?_
  refine s_ p_or ?_
  refine zC ?_
  refine ci ?_ ?_
  · intro _
    refine zC ?_
    apply cr
    refine s_ p_as ?_
    refine s_ p_as ?_
    refine zC ?_
    refine zR ?_
    exact rh kR ⟨rfl, rfl⟩ (Le.refl _)
  · intro hc
    exact absurd ⟨by omega, by omega⟩ h
set_option maxHeartbeats 4000000 in
theorem gnew_fn (P : Nat → En → Prop) (conf : Int) (h1 : 1 ≤ conf) (h2 : conf ≤ 31) : FnH Tryz.prog 10 [ei conf] [] (fun r H => ∃ bg g, r = .tup [pW bg, ei 0] ∧ IsG bg g H ∧ GB P g 0 0 0 ∧ GL conf g ∧ prG g = newN conf ∧ g.conf = conf) := by
  refine fn_enter Tryz.func10 (by rfl) (by rfl) ?_
  intro S0 w0
  show Sim _ _ [(0, ei conf)] [] _
  refine zC ?_
  apply cr
  refine s_ p_as ?_
  refine s_ p_as ?_
  refine zC ?_
  apply cr
  refine s_ p_mv ?_
  refine s_ p_lt ?_
  refine s_ p_mv ?_
  refine gF (fun hg => p_mv) ?_
  refine gF (fun hg => p_gt (hx := u_ hg)) ?_
  refine s_ p_or ?_
  refine zC ?_
  refine ci ?_ ?_
  · intro hc; omega
  intro _
  refine zC ?_
  apply cr
  refine s_ p_mv ?_
  refine e_mkm fun b17 _ => ?_
  refine s_ (p_bd 13 [_, _, _, _, _, _, _, _, _, _, _, _, _]) ?_
  refine e_bx fun b19 _ => ?_
  refine s_ p_as ?_
  refine zC ?_
  apply cr
  refine s_ p_mv ?_
  refine zC ?_
  apply sim_loopL (σ := Nat × (Nat → Ad) × (Nat → Kp)) (ok := fun s => s.1 ≤ 5 ∧ ∀ j : Nat, j < s.1 → LiveK (newF j conf) (s.2.2 j) ∧ (s.2.2 j).N = newF j conf) (env := fun s => [(20, ei s.1), (4, pW b19), (0, ei conf)]) (heap := fun s => (b19, ⟨tG, gN conf s.2.1 s.1 b17, 13⟩) :: (b17, ⟨.map [] 0, [], 0⟩) :: gMk s.2.1 s.2.2 s.1) (μ := fun s => 5 - s.1) (s0 := (0, fun _ => ⟨0, 0, 0⟩, fun _ => default))
  · exact ⟨Nat.zero_le _, fun j hj => absurd hj (Nat.not_lt_zero j)⟩
  · exact eL
  · exact kR
  rintro ⟨n, a, k⟩ ⟨hn, hk⟩
  simp only at hn hk
  show Sim _ _ [(20, ei n), (4, pW b19), (0, ei conf)] ((b19, ⟨tG, gN conf a n b17, 13⟩) :: (b17, ⟨.map [] 0, [], 0⟩) :: gMk a k n) _
  refine zC ?_
  apply cr
  refine s_ p_lt ?_
  refine zC ?_
  refine ci ?_ ?_
  · intro hlt
    have hn5 : n < 5 := by omega
    have hD := newD_fn 1048576 (by omega) (by omega)
    refine zC ?_
    apply cr
    refine s_ p_mv ?_
    refine s_ p_as ?_
    refine zC ?_
    apply cr
    refine e_cH (Hs := []) hD (List.Perm.refl _) (fun r H' ⟨bd, hr1, hr2⟩ => ?_)
    subst hr1 hr2
    have hO := gopen_fn bd n conf (by omega) (by omega) (by omega) h2
    refine s_ p_mv ?_
    refine s_ p_ex ?_
    refine s_ p_ex ?_
    refine s_ p_as ?_
    refine s_ p_as ?_
    refine zC ?_
    apply cr
    refine s_ p_mv ?_
    refine s_ p_mv ?_
    refine s_ p_mv ?_
    refine e_cH hO (List.Perm.refl _) (fun r H' ⟨bk, bj, K2, hr1, hr2, hL, hN⟩ => ?_)
    subst hr1 hr2
    refine from_perm (H' := (b19, ⟨tG, gN conf a n b17, 13⟩) :: (b17, ⟨.map [] 0, [], 0⟩) :: (gMk a k n ++ mH ⟨bd, bk, bj⟩ K2)) ?_ ?_
    · have := (List.perm_append_comm (l₁ := mH ⟨bd, bk, bj⟩ K2) (l₂ := (b19, ⟨tG, gN conf a n b17, 13⟩) :: (b17, ⟨.map [] 0, [], 0⟩) :: gMk a k n))
      exact this
    have hlay := gN_up conf a hn5 b17 ⟨bd, bk, bj⟩
    refine s_ p_mv ?_
    refine s_ p_ex ?_
    refine s_ p_ex ?_
    refine s_ p_as ?_
    refine s_ p_as ?_
    refine zC ?_
    apply cr
    refine s_ p_mv ?_
    refine s_ p_mv ?_
    refine s_ p_mv ?_
    refine s_ p_mv ?_
    refine s_ (p_bd 2 [_, _]) ?_
    refine s_ p_nc ?_
    refine s_ p_fr ?_
    refine s_ p_ar ?_
    refine e_st (hc := hlay) ?_
    
    refine zC ?_
    apply cr
    refine s_ p_ad ?_
    refine s_ p_mv ?_
    refine zC ?_
    refine ⟨(n + 1, upA a n ⟨bd, bk, bj⟩, upA k n K2), ⟨by simp only; omega, fun j hj => ?_⟩, (by simp only []; omega), ⟨?_, eL⟩, ?_⟩
    · simp only
      unfold upA
      by_cases hjn : j = n
      · subst hjn; rw [if_pos rfl]; exact ⟨hL, hN⟩
      · rw [if_neg hjn]; exact hk j (by simp only at hj; omega)
    · apply le_get; ((repeat (apply gS; rfl)); exact gZ)
      exact Le.refl _
    · simp only
      rw [gMk_succ]
      exact kR
  · intro hge
    have hn5 : n = 5 := by omega
    subst hn5
    refine zC ?_
    apply cr
    refine s_ p_mv ?_
    refine s_ p_as ?_
    refine s_ p_as ?_
    refine zC ?_
    refine zR ?_
    have hke : ∀ i : Nat, i < 5 → (newG conf k).k i = k i := fun i hi => newG_k conf k hi
    refine rh kR ⟨b19, newG conf k, rfl, ⟨a, b17, [], 0, [], .slice none 0 0, ⟨KeysOk.nil _, fun i hi => ?_⟩, osl_nil, ?_⟩, ?_, ?_, ?_, rfl⟩ (Le.refl _)
    · have h : ∀ i : Fin 5, (newG conf k).aw.getD i.val false = false := by
        intro i
        match i with
        | 0 | 1 | 2 | 3 | 4 => rfl
      rw [h ⟨i, hi⟩]; rfl
    · show _ = gH b19 conf a b17 [] 0 [] (.slice none 0 0) (newG conf k).k
      unfold gH
      rw [gM_eq a k (newG conf k).k hke]
      rfl
    · refine ⟨by simp [newG], rfl, fun i hi => ?_, fun i hi => ?_, fun i hi => ?_, by simp [newG], by simp [newG], ?_, Nat.le_refl _⟩
      · rw [hke i hi]
        have hl := (hk i hi).1.live
        obtain ⟨so, rs, hc, hnn⟩ := hl.cont
        exact ⟨hl.dk, by omega, by have := hc.len; omega⟩
      · rw [hke i hi, (hk i hi).2]; rfl
      · rw [hke i hi, (hk i hi).2]; exact new_nb (by omega) (by omega) (by omega) h2
      · have : ((newG conf k).ks.map fun K => Go.Proofs.YtjbokbikkcfjjaaGreat.pot K.N) = (List.range 5).map fun i => 0 := by
          unfold newG
          rw [List.map_map]
          refine List.map_congr_left fun i hi => ?_
          have hi5 := List.mem_range.1 hi
          show Go.Proofs.YtjbokbikkcfjjaaGreat.pot (k i).N = 0
          rw [(hk i hi5).2]; rfl
        rw [this]; decide
    · intro i hi
      rw [hke i hi]; exact (hk i hi).1
    · unfold prG newN newG
      simp only [Gn.mk.injEq, and_true]
      rw [List.map_map]
      refine List.map_congr_left fun i hi => ?_
      exact (hk i (List.mem_range.1 hi)).2
end Go.Proofs.YtjbokbikkcfjjaaGreat
end
section
set_option maxRecDepth 16000
namespace Go.Proofs.YtjbokbikkcfjjaaGreat
open Go.Cap
def PS (_ : Nat) (e : En) : Prop := Ek e 100000
theorem pk_short : PK PS where
  conf := fun _ _ h => ⟨h.c0, h.c1⟩
  own := fun _ t h0 h1 => ⟨h0, by simp only; omega, Int.le_refl _, by simp only; omega, by simp⟩
  sz := fun _ e h => ⟨⟨by have := h.t0; omega, by have := h.t1; omega⟩, ⟨by have := h.c0; omega, by have := h.c1; omega⟩, by have := h.cmd; omega⟩
  rec_ := fun l hl h => by
    have : ∀ e ∈ l, Ek e 100000 := fun e he => by
      obtain ⟨i, hi⟩ := List.mem_iff_getElem?.1 he
      exact h i e hi
    have := ents_small l this
    omega
end Go.Proofs.YtjbokbikkcfjjaaGreat
end
section
set_option maxRecDepth 16000
namespace Go.Cap
section
variable {P : Program} {t : Env} {H : Heap} {dst : Option Tmp} {tp : TypeId} {pos : String} {aft : Array Edge} {g : Option (Nat × Bool)} {ty ty' : TypeId} {x : Operand}
theorem run_eq_ptr00 {e : TypeId} (w : World) {ty : TypeId} (hu : P.underlying ty = some (.pointer e)) (d : Nat) : (Op.equalIn (d + 1) ty (.pointer none) (.pointer none)).run P w = .ok true w := by
  simp [Op.equalIn, run_underlying hu]
theorem run_eq_ptrN {e : TypeId} (w : World) {ty : TypeId} (hu : P.underlying ty = some (.pointer e)) : (Op.equal ty (.pointer none) (.pointer none)).run P w = .ok true w := run_eq_ptr00 w hu 9999
theorem p_eP0 {e : TypeId} (hx : autoParam (t.ev x = .v (.pointer none)) zl._auto_1) (hu : P.underlying ty = some (.pointer e) := by rfl) : POp P t H ⟨dst, .binOp .eql ty x (.const (.pointer none)) ty', tp, pos, aft, g⟩ (.v (.bool (decide True))) :=
  pop_bin hx rfl fun w => by
    have := run_eq_ptrN w hu
    simp [eqGuard, binOp, this]
theorem p_nP0 {e : TypeId} (hx : autoParam (t.ev x = .v (.pointer none)) zl._auto_1) (hu : P.underlying ty = some (.pointer e) := by rfl) : POp P t H ⟨dst, .binOp .neq ty x (.const (.pointer none)) ty', tp, pos, aft, g⟩ (.v (.bool (decide False))) :=
  pop_bin hx rfl fun w => by
    have := run_eq_ptrN w hu
    simp [eqGuard, binOp, this]
end
end Go.Cap
namespace Go.Proofs.YtjbokbikkcfjjaaGreat
open Go.Cap
set_option linter.unusedSimpArgs false
set_option linter.unusedVariables false
attribute [local irreducible] POp SimFrom DrawFrom EOp Sim FnH T.gp
set_option maxHeartbeats 2000000 in
theorem known20_fn : FnP Tryz.prog 9 [] (fun r => r = .v (.bool true)) := by
  have hN := gnew_fn PS 7 (by omega) (by omega)
  refine fn_enter Tryz.func9 (by rfl) (by rfl) ?_
  intro S0 w0
  show Sim _ _ [] _ _
  refine zC ?_
  apply cr
  refine s_ p_as ?_
  refine zC ?_
  apply cr
  refine e_cH (Hs := []) (Hr := []) hN (.refl _) (fun r H ⟨bg, g, hr, hG, hB, hL, hpr, hcf⟩ => ?_)
  subst hr
  rw [List.append_nil]
  refine s_ p_mv ?_
  refine s_ p_ex ?_
  refine s_ p_ex ?_
  refine s_ p_as ?_
  refine s_ p_as ?_
  refine zC ?_
  apply cr
  refine s_ p_mv ?_
  refine s_ p_ne ?_
  refine s_ p_mv ?_
  refine gF (fun hg => p_mv) ?_
  refine gF (p := ¬ (0 : Int) = 0) (fun hg => p_eP (hx := u_ hg)) ?_
  refine s_ p_or ?_
  refine zC ?_
  refine ci ?_ ?_
  · rintro (h | h)
    · exact absurd rfl h
    · exact h.elim
  intro _
  have hC := gcalm_fn pk_short bg g H 30 30 (by omega) hB (by omega) hG
  obtain ⟨l1, hB1, _⟩ := hB.calm pk_short.toPO 30 (by omega)
  obtain ⟨hL1, hpr1⟩ := hL.calm pk_short hB 30 (by omega)
  obtain ⟨g1, hg1⟩ : ∃ g1, g1 = calmG g 30 := ⟨_, rfl⟩
  rw [← hg1] at hC hB1 hL1 hpr1
  rw [hpr] at hpr1
  refine zC ?_
  apply cr
  refine s_ p_mv ?_
  refine e_cHA hC (fun r H' ⟨hr1, hG1⟩ => ?_)
  subst hr1
  have h0 : isI 0 := ⟨by omega, by omega⟩
  have h5 : ¬ isI 5 := fun h => absurd h.2 (by omega)
  have hK5 := gkeep_fn bg g1 H' 5 h5 hG1
  obtain ⟨a, bm, em, clk, W, wv, hA, hO, rfl⟩ := hG1
  have hK0 := gkeepY_fn bg g1 0 h0 (a := a) (bm := bm) (clk := clk) hA hO
  have hlen := (hB1.nb 0 (by omega)).len
  have hfv := hB1.five
  have hNo := gnode_fn (bg := bg) (g := g1) (a := a) (bm := bm) (es := em) (clk := clk) (W := W) (wv := wv) (i := 0) (by omega) (by omega)
  have hrole : (g1.k 0).N.role = 2 := by
    rw [← prG_n g1 0 (by rw [hB1.ks]; omega), hpr1]
    exact known30
  
  refine zC ?_
  apply cr
  refine s_ p_mv ?_
  refine e_cHA hK0 (fun r H' ⟨hr1, hr2⟩ => ?_)
  subst hr1 hr2
  refine s_ p_eP ?_
  refine s_ p_mv ?_
  refine gF (fun hg => p_mv) ?_
  refine gF_cH (p := False) (Hr := []) (fun h => h) hK5 (by rw [List.append_nil]) (fun r H' ⟨hr1, hr2⟩ => ?_) (ha' := evl_cons (u_ (fun h => h)) (evl_cons ev_int evl_nil))
  subst hr1 hr2
  rw [List.append_nil]
  refine gF (p := False) (fun hg => p_nP0) ?_
  refine s_ p_or ?_
  refine zC ?_
  refine ci ?_ ?_
  · rintro (h | h)
    · exact h.elim
    · exact h.elim
  intro _
  refine zC ?_
  apply cr
  refine s_ p_mv ?_
  refine e_cHA hK0 (fun r H' ⟨hr1, hr2⟩ => ?_)
  subst hr1 hr2
  refine e_cHA hNo (fun r H' ⟨hr1, hr2⟩ => ?_)
  subst hr1 hr2
  refine s_ p_fd ?_
  refine s_ p_eq ?_
  refine s_ p_as ?_
  refine zC ?_
  refine zE ?_
  exact Le.of_eq (by show T.v (.bool (decide ((g1.k 0).N.role = 2))) = _; rw [decide_eq_true hrole])
end Go.Proofs.YtjbokbikkcfjjaaGreat
end
section
set_option maxRecDepth 16000
namespace Go.Proofs.YtjbokbikkcfjjaaGreat
open Go.Cap
set_option linter.unusedSimpArgs false
set_option linter.unusedVariables false
attribute [local irreducible] POp SimFrom DrawFrom EOp Sim FnH T.gp
theorem gdoneE_fn (bg : Nat) (g : Gp) (H : Heap) (i : Int) (hi : ¬ isI i) (hG : IsG bg g H) : FnH Tryz.prog 19 [pW bg, ei i] H (fun r H' => r = .v (.slice none 0 0) ∧ H' = H) := by
  have hT := gis_fn bg g H i hG
  refine fn_enter Tryz.func19 (by rfl) (by rfl) ?_
  intro S0 w0
  show Sim _ _ [(0, pW bg), (1, ei i)] H _
  refine zC ?_
  apply cr
  refine s_ p_as ?_
  refine zC ?_
  apply cr
  refine s_ p_mv ?_
  refine s_ p_mv ?_
  refine e_cHA hT (fun r H' ⟨hr1, hr2⟩ => ?_)
  subst hr1 hr2
  refine s_ p_no ?_
  refine zC ?_
  refine ci (p := ¬ isI i) (fun _ => ?_) (fun h => absurd hi h)
  refine zC ?_
  apply cr
  refine s_ p_as ?_
  refine zC ?_
  refine zR ?_
  exact rh kR ⟨rfl, rfl⟩ (Le.refl _)
theorem gstopE_fn (bg : Nat) (g : Gp) (H : Heap) (i n : Int) (hi : ¬ isI i) (hG : IsG bg g H) : FnH Tryz.prog 21 [pW bg, ei i, ei n] H (fun r H' => r = .v (.bool (decide False)) ∧ H' = H) := by
  have hT := gis_fn bg g H i hG
  refine fn_enter Tryz.func21 (by rfl) (by rfl) ?_
  intro S0 w0
  show Sim _ _ [(0, pW bg), (1, ei i), (2, ei n)] H _
  refine zC ?_
  apply cr
  refine s_ p_as ?_
  refine zC ?_
  apply cr
  refine s_ p_mv ?_
  refine s_ p_mv ?_
  refine e_cHA hT (fun r H' ⟨hr1, hr2⟩ => ?_)
  subst hr1 hr2
  refine s_ p_no ?_
  refine zC ?_
  refine ci (p := ¬ isI i) (fun _ => ?_) (fun h => absurd hi h)
  refine zC ?_
  apply cr
  refine s_ p_as ?_
  refine zC ?_
  refine zR ?_
  exact rh kR ⟨rfl, rfl⟩ (Le.refl _)
theorem gcrashE_fn (bg : Nat) (g : Gp) (H : Heap) (i n : Int) (hi : ¬ isI i) (hG : IsG bg g H) : FnH Tryz.prog 24 [pW bg, ei i, ei n] H (fun r H' => r = .v (.bool (decide False)) ∧ H' = H) := by
  have hT := gis_fn bg g H i hG
  refine fn_enter Tryz.func24 (by rfl) (by rfl) ?_
  intro S0 w0
  show Sim _ _ [(0, pW bg), (1, ei i), (2, ei n)] H _
  refine zC ?_
  apply cr
  refine s_ p_as ?_
  refine zC ?_
  apply cr
  refine s_ p_mv ?_
  refine s_ p_mv ?_
  refine e_cHA hT (fun r H' ⟨hr1, hr2⟩ => ?_)
  subst hr1 hr2
  refine s_ p_no ?_
  refine zC ?_
  refine ci (p := ¬ isI i) (fun _ => ?_) (fun h => absurd hi h)
  refine zC ?_
  apply cr
  refine s_ p_as ?_
  refine zC ?_
  refine zR ?_
  exact rh kR ⟨rfl, rfl⟩ (Le.refl _)
end Go.Proofs.YtjbokbikkcfjjaaGreat
end
