/-
  group: Tick, take.
  An element of a slice of one's own taken out: append of its own rest, the rest cleared; slices.Delete of messages.
  group: Deliver, Drop, Twice, Away, Keep.
  group: Drop, Twice, Away, Keep.
  group: Calm.
  A call with more blocks beside those that it is given.
  group: wait, asked, Do, Change.
-/
import Derived.Test.YtjbokbikkcfjjaaGreatAba
import Derived.Test.YtjbokbikkcfjjaaGreatAaz
import Derived.Test.YtjbokbikkcfjjaaGreatAap
import Derived.Test.YtjbokbikkcfjjaaGreatAar
import Derived.Test.YtjbokbikkcfjjaaGreatAam
section
set_option maxRecDepth 16000
namespace Go.Proofs.YtjbokbikkcfjjaaGreat
open Go.Cap
set_option linter.unusedSimpArgs false
set_option linter.unusedVariables false
attribute [local irreducible] POp SimFrom DrawFrom EOp Sim FnH T.gp
section
variable {P : Nat → En → Prop} {g : Gp} {τ l u : Nat}
theorem GB.five (h : GB P g τ l u) : 5 * l ≤ u := by have := h.fuel; omega
theorem sum_mem {α : Type} (f : α → Nat) : ∀ (l : List α) (i : Nat) (h : i < l.length), f l[i] ≤ (l.map f).sum
  | a :: l, 0, _ => by simp
  | a :: l, i + 1, h => by
    have := sum_mem f l i (by simpa using h)
    simp only [List.map_cons, List.sum_cons, List.getElem_cons_succ]; omega
theorem GB.pot (h : GB P g τ l u) {i : Nat} (hi : i < 5) : 5 * l + Go.Proofs.YtjbokbikkcfjjaaGreat.pot (g.k i).N ≤ u := by
  have hil : i < g.ks.length := by rw [h.ks]; exact hi
  have := sum_mem (fun K => Go.Proofs.YtjbokbikkcfjjaaGreat.pot K.N) g.ks i hil
  have hk : g.ks[i] = g.k i := by unfold Gp.k; rw [List.getD_eq_getElem?_getD, List.getElem?_eq_getElem hil, Option.getD_some]
  rw [hk] at this
  have hf := h.fuel
  omega
theorem GB.ok (hP : PK P) (h : GB P g τ l u) (hu : u ≤ 25000) {i : Nat} (hi : i < 5) : KpOk (g.k i) := by
  have h5 := h.five
  have ht := h.tau
  have hk := h.ki i hi
  have hn := h.nb i hi
  exact ⟨hk.d, hn.sz hP (by omega) (by omega), by have := hn.rec_ hP (by omega); omega, hk.n0, by have := hk.n1; omega⟩
theorem Went.sz (hP : PK P) {n n' : Nd} {out : List Ms} {τ' c b : Nat} (h : Went P n n' out τ' l c b) (hl : 5 * l + Go.Proofs.YtjbokbikkcfjjaaGreat.pot n + c ≤ 25000) (ht : τ' ≤ 100000) : Sz n' ∧ (recB n' 0).length ≤ 524100 := by
  obtain ⟨d, h1, h2, _⟩ := h
  exact ⟨h1.sz hP ht (by omega), h1.rec_ hP (by omega)⟩
theorem GB.tick_fn (hP : PK P) (h : GB P g τ l u) (hu : u + 1 ≤ 25000) {i : Nat} (hi : i < 5) : FnP Tryz.prog 76 [nd (g.k i).N] (fun r => r = .tup [nd (tickF (g.k i).N).1, mss (tickF (g.k i).N).2]) := by
  have h5 := h.five
  have ht := h.tau
  have hn := h.nb i hi
  have hp := h.pot hi
  have hlen := hn.len
  unfold Go.Proofs.YtjbokbikkcfjjaaGreat.pot at hp
  exact Go.Proofs.YtjbokbikkcfjjaaGreat.tick_fn (hn.bd hP.toPO (by omega)) (by omega) hn.term0 (by have := hn.term1; omega) hn.wait0 (by have := hn.wait0; omega) (fun i => by have := hn.next1 i; omega)
theorem GB.take_fn (hP : PK P) (h : GB P g τ l u) (hu : u ≤ 25000) {i : Nat} (hi : i < 5) {m : Ms} (hm : MB P m τ l) : FnP Tryz.prog 100 [nd (g.k i).N, ms m] (fun r => r = .tup [nd (takeF (g.k i).N m).1, mss (takeF (g.k i).N m).2]) := by
  have h5 := h.five
  have hn := h.nb i hi
  have hlen := hn.len
  have h1 := hm.idx0
  have h2 := hm.idx1
  have h3 := hm.len
  exact Go.Proofs.YtjbokbikkcfjjaaGreat.take_fn (hn.bd hP.toPO (by omega)) (hn.nbd (by omega)) (.inr ⟨by omega, by omega, by omega⟩)
end
theorem gdid_fn {bg : Nat} {g : Gp} {a : Nat → Ad} {bm : Nat} {es : List (Value × T × Nat)} {clk : Nat} {W : Heap} {wv : Value} {i : Nat} {t : Nd} {l : List Ms} (hi : i < 5) (hks : g.ks.length = 5) (hA : AwOk g.aw es) (hO : OM g.way wv W) (hl : g.way.length + l.length ≤ 1000000) :
    FnH Tryz.prog 48 [pW bg, ei (keepF (g.k i) t 0).2, if (keepF (g.k i) t 0).2 = 0 then mss l else .sl true []] (gH bg g.conf a bm es clk W wv (upA g.k i (keepF (g.k i) t 0).1)) (fun r H' => r = .tup [] ∧ IsG bg (didG g i t l) H') := by
  obtain ⟨⟨K', e⟩, hk⟩ : ∃ x, keepF (g.k i) t 0 = x := ⟨_, rfl⟩
  have hG1 : IsG bg { g with ks := g.ks.set i K' } (gH bg g.conf a bm es clk W wv (upA g.k i K')) := by
    refine ⟨a, bm, es, clk, W, wv, hA, hO, ?_⟩
    unfold gH
    rw [gM_eq a (upA g.k i K') (Gp.k { g with ks := g.ks.set i K' }) (fun j hj => ?_)]
    have := Gp.k_set (g := g) (i := i) (j := j) (K := K') (w := g.way) (by rw [hks]; exact hj)
    rw [this]
    unfold upA
    by_cases hij : i = j
    · subst hij; simp
    · rw [if_neg hij, if_neg (fun e => hij e.symm)]
  rw [hk]
  simp only
  by_cases he : e = 0
  · have hs := gsent_fn bg _ _ e l (by simpa using hl) hG1
    rw [if_pos he] at hs ⊢
    refine hs.mono fun r H' h => ?_
    unfold didG
    rw [hk]
    simp only
    rw [if_pos he]
    exact h
  · have hs := gsent_fn bg _ _ e [] (by simp; omega) hG1
    rw [if_neg he] at hs ⊢
    refine (FnH.args hs (LeL.cons (Le.refl _) (LeL.cons (Le.refl _) (LeL.cons (Le.full _ _) LeL.nil)))).mono fun r H' h => ?_
    unfold didG
    rw [hk]
    simp only
    rw [if_neg he]
    exact h
set_option maxHeartbeats 2000000 in
theorem gtick_fn {P : Nat → En → Prop} {τ l u : Nat} (hP : PK P) (bg : Nat) (g : Gp) (H : Heap) (i : Int) (h : GB P g τ l u) (hu : u + 1 ≤ 25000) (hG : IsG bg g H) : FnH Tryz.prog 25 [pW bg, ei i] H (fun r H' => r = .tup [] ∧ IsG bg (tickG g i) H') := by
  have hT := gthere_fn bg g H i hG
  obtain ⟨a, bm, es, clk, W, wv, hA, hO, rfl⟩ := hG
  obtain ⟨q, iq, hq⟩ := decB (b := thereG g i)
  rw [hq] at hT
  refine fn_enter Tryz.func25 (by rfl) (by rfl) ?_
  intro S0 w0
  show Sim _ _ [(0, pW bg), (1, ei i)] ((bg, ⟨tG, gC g.conf a bm wv, 13⟩) :: (bm, ⟨.map es clk, [], 0⟩) :: (W ++ gM a g.k)) _
  refine zC ?_
  apply cr
  refine s_ p_mv ?_
  refine s_ p_mv ?_
  refine e_cHA hT (fun r H' ⟨hr1, hr2⟩ => ?_)
  subst hr1 hr2
  refine zC ?_
  refine ci (p := q) ?_ ?_
  · intro hq'
    have hth : thereG g i = true := by rw [hq]; exact decide_eq_true hq'
    have hi := thereG_is hth
    obtain ⟨h5, hc⟩ := isI_nat hi
    have hw := (h.nb _ h5).tick hP.toPO (by have := h.tau; omega)
    obtain ⟨hsz, hrc⟩ := hw.sz hP (by have := h.pot h5; omega) (by have := h.tau; omega)
    have hk := kTick_fn (a i.toNat).bk (a i.toNat).bj (a i.toNat).bd (g.k i.toNat) (h.tick_fn hP hu h5) (h.ok hP (by omega) h5) hsz (by omega)
    have hck := gC_k (conf := g.conf) (a := a) (bm := bm) (wv := wv) hi
    have hperm := perm3 (x := (bg, ⟨tG, gC g.conf a bm wv, 13⟩)) (y := (bm, ⟨.map es clk, [], 0⟩)) (W := W) (gM_at a g.k h5)
    have hout : (tickF (g.k i.toNat).N).2.length ≤ 100000 := by
      obtain ⟨d, _, h2, _, h4⟩ := hw.go
      have := h.pot h5; omega
    have hs := gdid_fn (bg := bg) (a := a) (bm := bm) (clk := clk) (t := (tickF (g.k i.toNat).N).1) (l := (tickF (g.k i.toNat).N).2) h5 h.ks hA hO (by have := h.many; have := h.five; omega)
    rw [show tickG g i = didG g i.toNat (tickF (g.k i.toNat).N).1 (tickF (g.k i.toNat).N).2 by unfold tickG; rw [if_pos hth]]
    refine zC ?_
    apply cr
    refine s_ p_mv ?_
    refine s_ p_mv ?_
    refine s_ p_nc ?_
    refine s_ p_fr ?_
    refine s_ p_ar ?_
    refine s_ p_fr ?_
    refine s_ (p_lo (hd := by first | rfl | assumption)) ?_
    refine e_cH hk hperm (fun r H' ⟨hr1, hr2⟩ => ?_)
    subst hr1 hr2
    refine from_perm (perm3 (x := (bg, ⟨tG, gC g.conf a bm wv, 13⟩)) (y := (bm, ⟨.map es clk, [], 0⟩)) (W := W) (M := gM a (upA g.k i.toNat (keepF (g.k i.toNat) (tickF (g.k i.toNat).N).1 0).1)) (A := mH (a i.toNat) (keepF (g.k i.toNat) (tickF (g.k i.toNat).N).1 0).1) (B := gO a g.k i.toNat) ?_).symm ?_
    · have := (gM_up a a g.k (upA g.k i.toNat (keepF (g.k i.toNat) (tickF (g.k i.toNat).N).1 0).1) h5 (fun j _ hj => ⟨rfl, by unfold upA; rw [if_neg hj]⟩)).symm
      simpa [upA] using this
    refine s_ p_mv ?_
    refine s_ p_ex ?_
    refine s_ p_ex ?_
    refine s_ p_as ?_
    refine s_ p_as ?_
    refine zC ?_
    apply cr
    refine s_ p_mv ?_
    refine s_ p_mv ?_
    refine s_ p_mv ?_
    refine e_cHA hs (fun r H' ⟨hr1, hr2⟩ => ?_)
    subst hr1
    refine zC ?_
    exact rhn kR ⟨rfl, hr2⟩ (Le.refl _)
  · intro hq'
    have hth : ¬ thereG g i = true := by rw [hq]; simpa using hq'
    refine zC ?_
    refine rhn kR ⟨rfl, ?_⟩ (Le.refl _)
    unfold tickG
    rw [if_neg hth]
    exact ⟨a, bm, es, clk, W, wv, hA, hO, rfl⟩
theorem perm4 {z x y : Nat × Blk} {W M A B : Heap} (h : M.Perm (A ++ B)) : (z :: x :: y :: (W ++ M)).Perm (A ++ (z :: x :: y :: (W ++ B))) :=
  ((perm3 (x := x) (y := y) (W := W) h).cons z).trans (List.perm_middle (a := z) (l₁ := A)).symm
set_option maxHeartbeats 4000000 in
theorem gtake_fn {P : Nat → En → Prop} {τ l u : Nat} (hP : PK P) (bg : Nat) (g : Gp) (H : Heap) (m : Ms) (hm : MB P m τ l) (h : GB P g τ l u) (hu : u ≤ 25000) (hG : IsG bg g H) : FnH Tryz.prog 35 [pW bg, ms m] H (fun r H' => r = .tup [] ∧ IsG bg (takeG g m) H') := by
  have hT := gthere_fn bg g H m.to hG
  obtain ⟨a, bm, es, clk, W, wv, hA, hO, rfl⟩ := hG
  obtain ⟨q, iq, hq⟩ := decB (b := thereG g m.to)
  rw [hq] at hT
  refine fn_enter Tryz.func35 (by rfl) (by rfl) ?_
  intro S0 w0
  show Sim _ _ [(0, pW bg), (1, T.agg (msC m (eens m.entries)))] ((bg, ⟨tG, gC g.conf a bm wv, 13⟩) :: (bm, ⟨.map es clk, [], 0⟩) :: (W ++ gM a g.k)) _
  refine zC ?_
  apply cr
  refine e_bx fun b3 _ => ?_
  refine zC ?_
  apply cr
  refine s_ p_mv ?_
  refine s_ p_fr ?_
  refine s_ p_lo ?_
  refine e_cH (Hr := [_]) hT (List.perm_append_comm (l₁ := [_])) (fun r H' ⟨hr1, hr2⟩ => ?_)
  subst hr1 hr2
  refine from_perm (List.perm_append_comm (l₂ := [_])) ?_
  show SimFrom _ _ _ _ _ ((b3, ⟨tM, msC m (eens m.entries), 11⟩) :: (bg, ⟨tG, gC g.conf a bm wv, 13⟩) :: (bm, ⟨.map es clk, [], 0⟩) :: (W ++ gM a g.k)) _
  refine zC ?_
  refine ci (p := q) ?_ ?_
  · intro hq'
    have hth : thereG g m.to = true := by rw [hq]; exact decide_eq_true hq'
    have hi := thereG_is hth
    obtain ⟨h5, hc⟩ := isI_nat hi
    have hp : 0 ≤ m.to ∧ m.to < 5 := hi
    have hw := (h.nb _ h5).take hP.toPO hm (by have := h.tau; omega)
    obtain ⟨hsz, hrc⟩ := hw.sz hP (by have := h.pot h5; omega) (by have := h.tau; omega)
    have hk := kTake_fn (a m.to.toNat).bk (a m.to.toNat).bj (a m.to.toNat).bd (g.k m.to.toNat) m (h.take_fn hP hu h5 hm) (h.ok hP (by omega) h5) hsz (by omega)
    have hck := gC_k (conf := g.conf) (a := a) (bm := bm) (wv := wv) hi
    have hperm := perm4 (z := (b3, ⟨tM, msC m (eens m.entries), 11⟩)) (x := (bg, ⟨tG, gC g.conf a bm wv, 13⟩)) (y := (bm, ⟨.map es clk, [], 0⟩)) (W := W) (gM_at a g.k h5)
    have hout : (takeF (g.k m.to.toNat).N m).2.length ≤ 100000 := by
      obtain ⟨d, _, h2, _, h4⟩ := hw.go
      have := h.pot h5; omega
    have hs := gdid_fn (bg := bg) (a := a) (bm := bm) (clk := clk) (t := (takeF (g.k m.to.toNat).N m).1) (l := (takeF (g.k m.to.toNat).N m).2) h5 h.ks hA hO (by have := h.many; have := h.five; omega)
    rw [show takeG g m = didG g m.to.toNat (takeF (g.k m.to.toNat).N m).1 (takeF (g.k m.to.toNat).N m).2 by unfold takeG; rw [if_pos hth]]
    refine zC ?_
    refine cm [9] (.yields 0 (.yields 1 (.yields 2 (.yields 3 (.yields 4 (.yields 5 (.yields 6 (.yields 7 (.yields 8 (.alt 9 (.yields 10 (.yields 11 (.yields 12 (.yields 13 (.yields 14 .done))))) .stop)))))))))) ?_
    refine m_ (fun _ => p_mv) ?_
    refine m_ (fun _ => p_fr) ?_
    refine m_lo ?_
    refine m_ (fun _ => p_nc) ?_
    refine m_ (fun _ => p_fr) ?_
    refine m_ (fun _ => p_ar) ?_
    refine m_ (fun _ => p_fr) ?_
    refine m_lo (hd := by first | rfl | assumption) ?_
    refine m_loa ?_
    refine ⟨?_, trivial⟩
    refine t_cHr hk hperm (fun r H' ⟨hr1, hr2⟩ => ⟨?_, ?_⟩)
    · subst hr1 hr2; exact zd
    subst hr1 hr2
    refine m_ (fun _ => p_mv) ?_
    refine m_ (fun _ => p_ex) ?_
    refine m_ (fun _ => p_ex) ?_
    refine m_ (fun _ => p_as) ?_
    refine m_ (fun _ => p_as) ?_
    refine zC ?_
    refine sim_perm (perm4 (z := (b3, ⟨tM, msC m (eens m.entries), 11⟩)) (x := (bg, ⟨tG, gC g.conf a bm wv, 13⟩)) (y := (bm, ⟨.map es clk, [], 0⟩)) (W := W) (M := gM a (upA g.k m.to.toNat (keepF (g.k m.to.toNat) (takeF (g.k m.to.toNat).N m).1 0).1)) (A := mH (a m.to.toNat) (keepF (g.k m.to.toNat) (takeF (g.k m.to.toNat).N m).1 0).1) (B := gO a g.k m.to.toNat) ?_).symm ?_
    · have := (gM_up a a g.k (upA g.k m.to.toNat (keepF (g.k m.to.toNat) (takeF (g.k m.to.toNat).N m).1 0).1) h5 (fun j _ hj => ⟨rfl, by unfold upA; rw [if_neg hj]⟩)).symm
      simpa [upA] using this
    refine zC ?_
    apply cr
    refine s_ p_mv ?_
    refine s_ p_mv ?_
    refine s_ p_mv ?_
    refine e_cH (Hr := [_]) hs (List.perm_append_comm (l₁ := [_])) (fun r H' ⟨hr1, hr2⟩ => ?_)
    subst hr1
    refine zC ?_
    exact rhnp (List.perm_append_comm (l₂ := [_])) (.skip _ _ _ kR) ⟨rfl, hr2⟩ (Le.refl _)
  · intro hq'
    have hth : ¬ thereG g m.to = true := by rw [hq]; simpa using hq'
    refine zC ?_
    refine rhn (.skip _ _ _ kR) ⟨rfl, ?_⟩ (Le.refl _)
    unfold takeG
    rw [if_neg hth]
    exact ⟨a, bm, es, clk, W, wv, hA, hO, rfl⟩
end Go.Proofs.YtjbokbikkcfjjaaGreat
end
section
set_option maxRecDepth 16000
namespace Go.Cap
section
variable {K : Ctx} {P : Program} {t : Env} {H : Heap} {dst : Option Tmp} {tp : TypeId} {pos : String} {aft : Array Edge} {g : Option (Nat × Bool)} {N : Env → Heap → Prop}
variable {S : Nat → Prop} {w : World} {ty ty' : TypeId}
theorem HeapLe.set {i b : Nat} {k k' : Blk} (hi : i < H.length) (hl : BlkLe k k') (hn : (keys (H.set i (b, k))).Nodup) : HeapLe (H.set i (b, k)) (H.set i (b, k')) := by
  refine ⟨?_, fun p hp => ?_⟩
  · have e : keys (H.set i (b, k')) = keys (H.set i (b, k)) := by unfold keys; rw [List.map_set, List.map_set]
    rw [e]; exact hn
  · obtain ⟨j, hj⟩ := List.mem_iff_getElem?.1 hp
    rw [List.getElem?_set] at hj
    by_cases hij : i = j
    · subst hij
      rw [if_pos rfl, if_pos hi] at hj
      cases hj
      exact ⟨k, List.mem_iff_getElem?.2 ⟨i, by rw [List.getElem?_set, if_pos rfl, if_pos hi]⟩, hl⟩
    · rw [if_neg hij] at hj
      exact ⟨p.2, List.mem_iff_getElem?.2 ⟨j, by rw [List.getElem?_set, if_neg hij]; exact hj⟩, BlkLe.refl _⟩
end
end Go.Cap
namespace Go.Proofs.YtjbokbikkcfjjaaGreat
open Go.Cap
set_option linter.unusedSimpArgs false
set_option linter.unusedVariables false
attribute [local irreducible] POp SimFrom DrawFrom EOp Sim FnH T.gp
end Go.Proofs.YtjbokbikkcfjjaaGreat
end
section
set_option maxRecDepth 16000
namespace Go.Proofs.YtjbokbikkcfjjaaGreat
open Go.Cap
set_option linter.unusedSimpArgs false
set_option linter.unusedVariables false
attribute [local irreducible] POp SimFrom DrawFrom EOp Sim FnH T.gp
theorem at_way {g : Gp} {k : Int} (h : hasG g k) : k.toNat < g.way.length ∧ ((k.toNat : Nat) : Int) = k ∧ (g.way.map ms)[k.toNat]? = some (ms (g.way.getD k.toNat default)) := by
  obtain ⟨h0, h1⟩ := h
  have hk : k.toNat < g.way.length := by omega
  refine ⟨hk, by omega, ?_⟩
  rw [List.getElem?_map, List.getD_eq_getElem?_getD, List.getElem?_eq_getElem hk]
  rfl
theorem way_row {l : List Ms} {p : Option Addr} {n c : Nat} {W : Heap} (hO : OM l (.slice p n c) W) (hl : 0 < l.length) : ∃ b, p = some ⟨b, 0, none⟩ ∧ n = l.length ∧ W = [(b, ⟨tM, (l.map ms).flatMap T.cells, c * 11⟩)] := by
  rcases hO with ⟨h, _⟩ | ⟨b, c', e, hc, rfl⟩
  · have : l = [] := by simpa using h
    rw [this] at hl; simp at hl
  · cases e
    exact ⟨b, rfl, List.length_map _, rfl⟩
theorem IsG.out {bg : Nat} {g : Gp} {a : Nat → Ad} {bm : Nat} {es : List (Value × T × Nat)} {clk : Nat} {W : Heap} {wv : Value} {w : List Ms} (hA : AwOk g.aw es) (hO : OM w wv W) : IsG bg { g with way := w } (gH bg g.conf a bm es clk W wv g.k) := ⟨a, bm, es, clk, W, wv, hA, hO, rfl⟩
theorem perm5 {x y : Nat × Blk} {W M : Heap} : (x :: y :: (W ++ M)).Perm (W ++ (x :: y :: M)) := by
  have := perm3 (x := x) (y := y) (W := []) (M := W ++ M) (A := W) (B := M) (List.Perm.refl _)
  simpa using this
end Go.Proofs.YtjbokbikkcfjjaaGreat
end
section
set_option maxRecDepth 16000
namespace Go.Cap
theorem mget_set {es : List (Value × T × Nat)} {k : Value} (x : T) (hg : mget es k ≠ none) (k' : Value) : mget (mset es k x) k' = if keq k k' = true then some x else mget es k' := by
  induction es with
  | nil => exact absurd rfl hg
  | cons e es ih =>
    rw [mset]
    by_cases h : keq e.1 k = true
    · rw [if_pos h, mget, mget, keq_eq h]
      split <;> rfl
    · rw [if_neg h]
      rw [mget, if_neg h] at hg
      rw [mget, mget, ih hg]
      by_cases h2 : keq k k' = true
      · have := keq_eq h2
        subst this
        rw [if_neg h, if_pos h2, if_pos h2]
      · rw [if_neg h2, if_neg h2]
theorem mget_push {es : List (Value × T × Nat)} {k : Value} (x : T) (n : Nat) (hg : mget es k = none) (k' : Value) : mget (es ++ [(k, x, n)]) k' = if keq k k' = true then some x else mget es k' := by
  induction es with
  | nil => rfl
  | cons e es ih =>
    rw [mget] at hg
    split at hg
    · cases hg
    · rename_i h
      rw [List.cons_append, mget, mget, ih hg]
      by_cases h2 : keq k k' = true
      · have := keq_eq h2
        subst this
        rw [if_neg h, if_pos h2, if_pos h2]
      · rw [if_neg h2, if_neg h2]
end Go.Cap
namespace Go.Proofs.YtjbokbikkcfjjaaGreat
open Go.Cap
set_option linter.unusedSimpArgs false
set_option linter.unusedVariables false
attribute [local irreducible] POp SimFrom DrawFrom EOp Sim FnH T.gp
theorem AwOk.set {aw : List Bool} {es : List (Value × T × Nat)} (h : AwOk aw es) (clk : Nat) {i : Int} (hi : isI i) (b : Bool) (hl : aw.length = 5) : ∃ es' clk', mput es clk (.int .i64 i) (eB b) = .map es' clk' ∧ AwOk (aw.set i.toNat b) es' := by
  have hI : MapKept.IsKey (.int .i64) (.int .i64 i) := rfl
  have hget : ∀ es', (∀ k', mget es' k' = if keq (.int .i64 i) k' = true then some (eB b) else mget es k') → ∀ j : Nat, j < 5 → (mget es' (.int .i64 (j : Int))).getD (.v (.bool false)) = eB ((aw.set i.toNat b).getD j false) := by
    intro es' he j hj
    rw [he, List.getD_eq_getElem?_getD, List.getElem?_set]
    by_cases hij : i.toNat = j
    · have : keq (.int .i64 i) (.int .i64 (j : Int)) = true := by simp [keq]; have := hi.1; omega
      rw [if_pos this, if_pos hij, if_pos (by omega)]; rfl
    · have : ¬ keq (.int .i64 i) (.int .i64 (j : Int)) = true := by simp [keq]; have := hi.1; omega
      rw [if_neg this, if_neg hij, h.get j hj, List.getD_eq_getElem?_getD]
  unfold mput
  cases hg : mget es (.int .i64 i) with
  | some y => exact ⟨_, _, rfl, h.keys.set _ _, hget _ (mget_set _ (by rw [hg]; simp))⟩
  | none => exact ⟨_, _, rfl, h.keys.push hI hg _ _, hget _ (mget_push _ _ hg)⟩
theorem gaway_fn {P : Nat → En → Prop} {τ l u : Nat} (bg : Nat) (g : Gp) (H : Heap) (i : Int) (b : Bool) (h : GB P g τ l u) (hG : IsG bg g H) : FnH Tryz.prog 20 [pW bg, ei i, eB b] H (fun r H' => r = eB (decide (isI i)) ∧ IsG bg (awayG g i b) H') := by
  have hT := gis_fn bg g H i hG
  obtain ⟨a, bm, es, clk, W, wv, hA, hO, rfl⟩ := hG
  refine fn_enter Tryz.func20 (by rfl) (by rfl) ?_
  intro S0 w0
  show Sim _ _ [(0, pW bg), (1, ei i), (2, eB b)] ((bg, ⟨tG, gC g.conf a bm wv, 13⟩) :: (bm, ⟨.map es clk, [], 0⟩) :: (W ++ gM a g.k)) _
  have hkeys := hA.keys
  refine zC ?_
  apply cr
  refine s_ p_as ?_
  refine zC ?_
  apply cr
  refine s_ p_mv ?_
  refine s_ p_mv ?_
  refine e_cHA hT (fun r H' ⟨hr1, hr2⟩ => ?_)
  subst hr1 hr2
  refine s_ p_no ?_
  refine zC ?_
  refine ci ?_ ?_
  · intro hn
    have hno : ¬ isI i := hn
    refine zC ?_
    apply cr
    refine s_ p_as ?_
    refine zC ?_
    refine zR ?_
    refine rh kR ⟨rfl, ?_⟩ ?_
    · unfold awayG; rw [if_neg hno]
      exact ⟨a, bm, es, clk, W, _, hA, hO, rfl⟩
    · exact Le.of_eq (by show T.v (.bool false) = T.v (.bool (decide (isI i))); rw [decide_eq_false hno])
  · intro hn
    have hyes : isI i := Classical.not_not.1 hn
    obtain ⟨es', clk', hput, hA'⟩ := hA.set clk hyes b h.aw
    refine zC ?_
    apply cr
    refine s_ p_mv ?_
    refine s_ p_nc ?_
    refine s_ p_fr ?_
    refine s_ p_lo ?_
    refine s_ p_mv ?_
    refine s_ p_mv ?_
    refine e_mu hkeys ?_
    refine zC ?_
    apply cr
    refine s_ p_as ?_
    refine zC ?_
    rw [hput]
    refine zR ?_
    refine rh kR ⟨rfl, ?_⟩ ?_
    · unfold awayG; rw [if_pos hyes]; exact ⟨a, bm, es', clk', W, wv, hA', hO, rfl⟩
    · exact Le.of_eq (by show T.v (.bool true) = T.v (.bool (decide (isI i))); rw [decide_eq_true hyes])
theorem gkeep_fn (bg : Nat) (g : Gp) (H : Heap) (i : Int) (hi : ¬ isI i) (hG : IsG bg g H) : FnH Tryz.prog 22 [pW bg, ei i] H (fun r H' => r = .v (.pointer none) ∧ H' = H) := by
  have hT := gis_fn bg g H i hG
  obtain ⟨a, bm, es, clk, W, wv, hA, hO, rfl⟩ := hG
  refine fn_enter Tryz.func22 (by rfl) (by rfl) ?_
  intro S0 w0
  show Sim _ _ [(0, pW bg), (1, ei i)] ((bg, ⟨tG, gC g.conf a bm wv, 13⟩) :: (bm, ⟨.map es clk, [], 0⟩) :: (W ++ gM a g.k)) _
  refine zC ?_
  apply cr
  refine s_ p_as ?_
  refine zC ?_
  apply cr
  refine s_ p_mv ?_
  refine s_ p_mv ?_
  refine e_cHA hT (fun r H' ⟨hr1, hr2⟩ => ?_)
  subst hr1 hr2
  refine s_ p_no ?_
  refine zC ?_
  refine ci (p := ¬ isI i) ?_ ?_
  · intro _
    refine zC ?_
    apply cr
    refine s_ p_as ?_
    refine zC ?_
    refine zR ?_
    exact rh kR ⟨rfl, rfl⟩ (Le.refl _)
  · intro h; exact absurd hi h
theorem gkeepY_fn (bg : Nat) (g : Gp) (i : Int) (hi : isI i) {a : Nat → Ad} {bm : Nat} {es : List (Value × T × Nat)} {clk : Nat} {W : Heap} {wv : Value} (hA : AwOk g.aw es) (hO : OM g.way wv W) : FnH Tryz.prog 22 [pW bg, ei i] (gH bg g.conf a bm es clk W wv g.k) (fun r H' => r = pW (a i.toNat).bk ∧ H' = gH bg g.conf a bm es clk W wv g.k) := by
  have hT := gis_fn bg g _ i ⟨a, bm, es, clk, W, wv, hA, hO, rfl⟩
  refine fn_enter Tryz.func22 (by rfl) (by rfl) ?_
  intro S0 w0
  show Sim _ _ [(0, pW bg), (1, ei i)] ((bg, ⟨tG, gC g.conf a bm wv, 13⟩) :: (bm, ⟨.map es clk, [], 0⟩) :: (W ++ gM a g.k)) _
  have hck := gC_k (conf := g.conf) (a := a) (bm := bm) (wv := wv) hi
  have hp : 0 ≤ i ∧ i < 5 := hi
  refine zC ?_
  apply cr
  refine s_ p_as ?_
  refine zC ?_
  apply cr
  refine s_ p_mv ?_
  refine s_ p_mv ?_
  refine e_cHA hT (fun r H' ⟨hr1, hr2⟩ => ?_)
  subst hr1 hr2
  refine s_ p_no ?_
  refine zC ?_
  refine ci (p := ¬ isI i) ?_ ?_
  · intro h; exact absurd hi h
  · intro _
    refine zC ?_
    apply cr
    refine s_ p_mv ?_
    refine s_ p_mv ?_
    refine s_ p_nc ?_
    refine s_ p_fr ?_
    refine s_ p_ar ?_
    refine s_ p_fr ?_
    refine s_ (p_lo (hd := by first | rfl | assumption)) ?_
    refine s_ p_as ?_
    refine zC ?_
    refine zR ?_
    exact rh kR ⟨rfl, rfl⟩ (Le.refl _)
end Go.Proofs.YtjbokbikkcfjjaaGreat
end
section
set_option maxRecDepth 16000
namespace Go.Proofs.YtjbokbikkcfjjaaGreat
open Go.Cap
set_option linter.unusedSimpArgs false
set_option linter.unusedVariables false
attribute [local irreducible] POp SimFrom DrawFrom EOp Sim FnH T.gp
theorem front_app : ∀ (A : Heap) {H : Heap}, HeapFront (A ++ H) H
  | [], H => kR
  | p :: A, H => .skip p _ _ (front_app A)
theorem calm_succ (g : Gp) (n : Nat) : calmG g (n + 1) = roundG (calmG g n) := rfl
def takesG (g : Gp) (k : Nat) : Gp := (g.way.take k).foldl takeG { g with way := [] }
theorem takes_succ (g : Gp) {k : Nat} (hk : k < g.way.length) : takesG g (k + 1) = takeG (takesG g k) (g.way.getD k default) := by
  unfold takesG
  rw [List.take_succ_eq_append_getElem hk, List.foldl_append, List.getD_eq_getElem?_getD, List.getElem?_eq_getElem hk]
  rfl
theorem takes_all (g : Gp) : takesG g g.way.length = g.way.foldl takeG { g with way := [] } := by unfold takesG; rw [List.take_length]
set_option maxHeartbeats 8000000 in
theorem gcalm_fn {P : Nat → En → Prop} {τ l u : Nat} (hP : PK P) (bg : Nat) (g : Gp) (H : Heap) (r : Int) (n : Nat) (hn : min (max r 0) 200 = (n : Int)) (h : GB P g τ l u) (hu : u + 5 * n ≤ 25000) (hG : IsG bg g H) : FnH Tryz.prog 11 [pW bg, ei r] H (fun r H' => r = .tup [] ∧ IsG bg (calmG g n) H') := by
  refine fn_enter Tryz.func11 (by rfl) (by rfl) ?_
  intro S0 w0
  show Sim _ _ [(0, pW bg), (1, ei r)] H _
  refine zC ?_
  apply cr
  refine s_ p_mv ?_
  refine s_ p_ma ?_
  refine s_ p_mi ?_
  refine s_ p_mv ?_
  refine zC ?_
  rw [hn]
  apply sim_loopL (σ := Nat × Heap) (ok := fun s => s.1 ≤ n ∧ IsG bg (calmG g s.1) s.2) (env := fun s => [(11, ei s.1), (10, ei n), (0, pW bg)]) (heap := fun s => s.2) (μ := fun s => n - s.1) (s0 := (0, H))
  · exact ⟨Nat.zero_le _, hG⟩
  · exact eL
  · exact kR
  rintro ⟨j, H⟩ ⟨hj, hG⟩
  simp only at hj hG
  show Sim _ _ [(11, ei j), (10, ei n), (0, pW bg)] H _
  obtain ⟨l0, hgb, _⟩ := h.calm hP.toPO j (by have := h.tau; omega)
  obtain ⟨g0, hg0⟩ : ∃ g0, g0 = calmG g j := ⟨_, rfl⟩
  rw [← hg0] at hG hgb
  have hu0 : u + 5 * j + 5 ≤ 25000 ∨ j = n := by omega
  have ht0 := hgb.tau
  refine zC ?_
  apply cr
  refine s_ p_lt ?_
  refine zC ?_
  refine ci ?_ ?_
  · intro hlt
    have hjn : j < n := by omega
    have hu1 : u + 5 * j + 5 ≤ 25000 := by omega
    obtain ⟨a, bm, es, clk, W, wv, hA, hO, rfl⟩ := hG
    obtain ⟨p, c, rfl⟩ := hO.len
    have hml : (g0.way.map ms).length = g0.way.length := List.length_map _
    show Sim _ _ _ ((bg, ⟨tG, gC g0.conf a bm _, 13⟩) :: (bm, ⟨.map es clk, [], 0⟩) :: (W ++ gM a g0.k)) _
    refine zC ?_
    apply cr
    refine s_ p_mv ?_
    refine s_ p_nc ?_
    refine s_ p_fr ?_
    refine s_ p_lo ?_
    refine s_ p_as ?_
    refine zC ?_
    apply cr
    refine s_ p_mv ?_
    refine s_ p_nc ?_
    refine s_ p_fr ?_
    refine e_st ?_
    refine zC ?_
    apply cr
    refine s_ p_mv ?_
    refine s_ p_lr ?_
    refine s_ p_mv ?_
    refine zC ?_
    refine sim_perm (H' := W ++ gH bg g0.conf a bm es clk [] (.slice none 0 0) g0.k) ?_ ?_
    · exact perm5
    apply sim_loopL (σ := Nat × Heap) (ok := fun s => s.1 ≤ g0.way.length ∧ IsG bg (takesG g0 s.1) s.2) (env := fun s => [(22, ei s.1), (21, ei g0.way.length), (20, .v (.slice p (g0.way.map ms).length c)), (11, ei j), (10, ei n), (0, pW bg)]) (heap := fun s => W ++ s.2) (μ := fun s => g0.way.length - s.1) (s0 := (0, gH bg g0.conf a bm es clk [] (.slice none 0 0) g0.k))
    · exact ⟨Nat.zero_le _, IsG.out (a := a) (bm := bm) (clk := clk) (w := []) hA osl_nil⟩
    · refine ⟨?_, ?_, eL⟩
      · apply le_get; ((repeat (apply gS; rfl)); exact gZ)
        exact Le.refl _
      · apply le_get; ((repeat (apply gS; rfl)); exact gZ)
        exact Le.of_eq (by rw [hml]; rfl)
    · exact kR
    · rintro ⟨k, H⟩ ⟨hk, hG⟩
      simp only at hk hG
      show Sim _ _ [(22, ei k), (21, ei g0.way.length), (20, .v (.slice p (g0.way.map ms).length c)), (11, ei j), (10, ei n), (0, pW bg)] (W ++ H) _
      refine zC ?_
      apply cr
      refine s_ p_lt ?_
      refine zC ?_
      refine ci ?_ ?_
      · intro hlt2
        have hkl : k < g0.way.length := by omega
        have hmany := hgb.many
        have hfive := hgb.five
        have hhas : hasG g0 (k : Int) := ⟨by omega, by omega⟩
        obtain ⟨_, hkn, hget⟩ := at_way hhas
        obtain ⟨bw, rfl, _, rfl⟩ := way_row hO (by omega)
        obtain ⟨m, hm⟩ : ∃ m, m = g0.way.getD k default := ⟨_, rfl⟩
        have hmem : g0.way.getD k default ∈ g0.way := by
          rw [List.getD_eq_getElem?_getD, List.getElem?_eq_getElem hkl]; exact List.getElem_mem _
        obtain ⟨lk, hgk, hlk⟩ := GB.takes hP.toPO (by omega) (g0.way.take k) (hgb.out (w := []) (by simp) (by simp)) (fun x hx => hgb.way x (List.mem_of_mem_take hx)) (by have := hgb.many; rw [List.length_take]; simp only [List.length_nil]; omega)
        have hmb := (hgb.way _ hmem).le (Nat.le_refl _) hlk
        have htk := gtake_fn hP bg (takesG g0 k) H m (by rw [hm]; exact hmb) hgk (by omega) hG
        rw [show ((k : Int).toNat) = k by omega, ← hm] at hget
        show Sim _ _ _ ((bw, ⟨tM, (g0.way.map ms).flatMap T.cells, c * 11⟩) :: H) _
        refine zC ?_
        apply cr
        refine s_ p_ir ?_
        refine s_ (p_loa (hc := TakeR.flat (ms11 g0.way) hget)) ?_
        refine e_al fun b6 _ => ?_
        refine e_st ?_
        refine zC ?_
        apply cr
        refine s_ p_mv ?_
        refine s_ p_loa ?_
        refine e_cH (Hr := [_, _]) htk (List.perm_append_comm (l₁ := [_, _])) (fun r H' ⟨hr1, hr2⟩ => ?_)
        subst hr1
        refine from_perm (List.perm_append_comm (l₂ := [_, _])) ?_
        
        refine zC ?_
        apply cr
        refine s_ p_ad ?_
        refine s_ p_mv ?_
        refine zC ?_
        refine ⟨(k + 1, H'), ⟨by simp only; omega, ?_⟩, (by simp only []; omega), ⟨?_, eL⟩, ?_⟩
        · simp only
          rw [takes_succ _ hkl, ← hm]; exact hr2
        · apply le_get; ((repeat (apply gS; rfl)); exact gZ)
          exact Le.refl _
        · exact .skip _ _ _ kR
      · intro hge
        have hke : k = g0.way.length := by omega
        subst hke
        rw [takes_all] at hG
        obtain ⟨l1, hg1, hl1⟩ := GB.takes hP.toPO (by omega) g0.way (hgb.out (w := []) (by simp) (by simp)) hgb.way (by simpa using hgb.many)
        obtain ⟨g1, hg1e⟩ : ∃ g1, g1 = g0.way.foldl takeG { g0 with way := [] } := ⟨_, rfl⟩
        rw [← hg1e] at hG hg1
        refine zC ?_
        apply cr
        refine s_ p_mv ?_
        refine zC ?_
        apply sim_loopL (σ := Nat × Heap) (ok := fun s => s.1 ≤ 5 ∧ IsG bg (ticksG g1 s.1) s.2) (env := fun s => [(30, ei s.1), (11, ei j), (10, ei n), (0, pW bg)]) (heap := fun s => s.2) (μ := fun s => 5 - s.1) (s0 := (0, H))
        · exact ⟨Nat.zero_le _, hG⟩
        · exact eL
        · exact front_app W
        · rintro ⟨q, H⟩ ⟨hq, hG⟩
          simp only at hq hG
          show Sim _ _ [(30, ei q), (11, ei j), (10, ei n), (0, pW bg)] H _
          refine zC ?_
          apply cr
          refine s_ p_lt ?_
          refine zC ?_
          refine ci ?_ ?_
          · intro hlt3
            have hq5 : q < 5 := by omega
            obtain ⟨lq, hgq, _⟩ := hg1.ticks hP.toPO q (by omega)
            have htk := gtick_fn hP bg (ticksG g1 q) H q hgq (by omega) hG
            refine zC ?_
            apply cr
            refine s_ p_mv ?_
            refine s_ p_as ?_
            refine zC ?_
            apply cr
            refine s_ p_mv ?_
            refine s_ p_mv ?_
            refine e_cHA htk (fun r H' ⟨hr1, hr2⟩ => ?_)
            subst hr1
            
            refine zC ?_
            apply cr
            refine s_ p_ad ?_
            refine s_ p_mv ?_
            refine zC ?_
            refine ⟨(q + 1, H'), ⟨by simp only; omega, ?_⟩, (by simp only []; omega), ⟨?_, eL⟩, kR⟩
            · simp only
              rw [ticks_succ]; exact hr2
            · apply le_get; ((repeat (apply gS; rfl)); exact gZ)
              exact Le.refl _
          · intro hge3
            have hq5 : q = 5 := by omega
            subst hq5
            refine zC ?_
            apply cr
            refine s_ p_ad ?_
            refine s_ p_mv ?_
            refine zC ?_
            refine ⟨(j + 1, H), ⟨by simp only; omega, ?_⟩, (by simp only []; omega), ⟨?_, eL⟩, kR⟩
            · simp only
              rw [calm_succ, ← hg0]
              unfold roundG
              rw [← hg1e]; exact hG
            · apply le_get; ((repeat (apply gS; rfl)); exact gZ)
              exact Le.refl _
  · intro hge
    have hje : j = n := by omega
    subst hje
    refine zC ?_
    refine rhn kR ⟨rfl, ?_⟩ (Le.refl _)
    rw [← hg0]; exact hG
end Go.Proofs.YtjbokbikkcfjjaaGreat
end
section
namespace Go.Cap
theorem FnH.framed {P : Program} {f : FuncId} {args : List T} {H Hs Hr : Heap} {Φ Ψ : T → Heap → Prop} (hf : FnH P f args Hs Φ) (hp : H.Perm (Hs ++ Hr)) (hΦ : ∀ r H1, Φ r H1 → ∃ H', (H1 ++ Hr).Perm H' ∧ Ψ r H') : FnH P f args H Ψ := by
  intro S w vs hw ho hr
  have hoP := ho.perm hp
  refine (hf S w vs hw hoP.left hr).mono ?_
  rintro e w' ⟨u, S', r, H1, rfl, hΦ', hrel, hown, hst, hkeys⟩
  obtain ⟨H', hP, hΨ⟩ := hΦ r H1 hΦ'
  have hsS : ∀ b ∈ keys Hs, ¬ S b := hoP.left.apart
  have hm := hst.mono hw hsS
  have hownA : Own S' w' (H1 ++ Hr) := by
    refine ⟨?_, ?_, ?_⟩
    · rw [keys_append]
      refine List.nodup_append.2 ⟨hown.nodup, hoP.right.nodup, fun b hb c hc' e => ?_⟩
      subst e
      rcases hkeys b hb with h1 | h1
      · exact hoP.disj b h1 hc'
      · have := hoP.right.lt b hc'; omega
    · intro b hb hS
      rw [keys_append] at hb
      rcases List.mem_append.1 hb with hb | hb
      · exact hown.apart b hb hS
      · rcases hst.new b hS with h1 | h1 | h1
        · exact hoP.right.apart b hb h1
        · have := hoP.right.lt b hb; omega
        · exact hoP.disj b h1 hb
    · intro p hp'
      rcases List.mem_append.1 hp' with hp' | hp'
      · exact hown.has p hp'
      · have hk' : p.1 ∈ keys Hr := List.mem_map.2 ⟨p, hp', rfl⟩
        have h1 := hoP.right.has p hp'
        exact h1.mono (hst.keep _ h1.lt (fun h => hoP.disj _ h hk')) hm
  have hkp : ∀ b, b ∈ keys H ↔ b ∈ keys (Hs ++ Hr) := fun b => (keys_perm hp).mem_iff
  refine ⟨u, S', r, H', rfl, hΨ, hrel, hownA.perm hP, hst.weaken fun b hb => .inl ((hkp b).2 (by rw [keys_append]; exact List.mem_append_left _ hb)), fun b hb => ?_⟩
  have hb' : b ∈ keys (H1 ++ Hr) := (keys_perm hP).mem_iff.2 hb
  rw [keys_append] at hb'
  rcases List.mem_append.1 hb' with h | h
  · rcases hkeys b h with h1 | h1
    · exact .inl ((hkp b).2 (by rw [keys_append]; exact List.mem_append_left _ h1))
    · exact .inr h1
  · exact .inl ((hkp b).2 (by rw [keys_append]; exact List.mem_append_right _ h))
end Go.Cap
end
section
set_option maxRecDepth 16000
namespace Go.Proofs.YtjbokbikkcfjjaaGreat
open Go.Cap
set_option linter.unusedSimpArgs false
set_option linter.unusedVariables false
attribute [local irreducible] POp SimFrom DrawFrom EOp Sim FnH T.gp
theorem GB.waits {P : Nat → En → Prop} {g : Gp} {τ l u : Nat} (hP : PO P) (h : GB P g τ l u) (hu : u + 5 ≤ 25000) : ∃ τ' l', GB P (roundG g) τ' l' (u + 5) := by
  have := h.tau
  obtain ⟨l', h1, _⟩ := h.round hP (by omega)
  exact ⟨_, l', h1⟩
theorem gnode_fn {bg : Nat} {g : Gp} {a : Nat → Ad} {bm : Nat} {es : List (Value × T × Nat)} {clk : Nat} {W : Heap} {wv : Value} {i : Nat} (hi : i < 5) (hl : (g.k i).N.log.length ≤ 1000000000) :
    FnH Tryz.prog 23 [pW (a i).bk] (gH bg g.conf a bm es clk W wv g.k) (fun r H' => r = nd (g.k i).N ∧ H' = gH bg g.conf a bm es clk W wv g.k) := by
  have hk := kNode_fn (a i).bk (a i).bj (a i).bd (g.k i) hl
  have hperm := perm3 (x := (bg, ⟨tG, gC g.conf a bm wv, 13⟩)) (y := (bm, ⟨.map es clk, [], 0⟩)) (W := W) (gM_at a g.k hi)
  exact FnH.framed hk hperm (fun r H1 ⟨h1, h2⟩ => ⟨_, by rw [h2]; exact hperm.symm, h1, rfl⟩)
theorem gwaitE_fn (bg : Nat) (H : Heap) (i index e : Int) (he : ¬ e = 0) : FnH Tryz.prog 40 [pW bg, ei i, ei index, ei e] H (fun r H' => r = ei e ∧ H' = H) := by
  refine fn_enter Tryz.func40 (by rfl) (by rfl) ?_
  intro S0 w0
  show Sim _ _ [(0, pW bg), (1, ei i), (2, ei index), (3, ei e)] H _
  refine zC ?_
  apply cr
  refine s_ p_as ?_
  refine zC ?_
  apply cr
  refine s_ p_mv ?_
  refine s_ p_ne ?_
  refine zC ?_
  refine ci ?_ ?_
  · intro _
    refine zC ?_
    apply cr
    refine s_ p_mv ?_
    refine s_ p_as ?_
    refine zC ?_
    refine zR ?_
    exact rh kR ⟨rfl, rfl⟩ (Le.refl _)
  · intro h; exact absurd he h
theorem een_at {n : Nd} {k : Nat} (hk : k < n.log.length) : n.log[k].term = (n.log.getD k default).term := by
  rw [List.getD_eq_getElem?_getD, List.getElem?_eq_getElem hk]; rfl
set_option maxHeartbeats 8000000 in
theorem gwait_fn {P : Nat → En → Prop} {τ l u : Nat} (hP : PK P) (bg : Nat) (g : Gp) (H : Heap) (i index : Int) (hi : isI i) (h : GB P g τ l u) (hu : u + 200 ≤ 25000) (hx0 : 0 ≤ index) (hx1 : index ≤ 1000000) (hG : IsG bg g H) :
    FnH Tryz.prog 40 [pW bg, ei i, ei index, ei 0] H (fun r H' => r = ei (waitG i.toNat index (g.k i.toNat).N.term 40 g).2 ∧ IsG bg (waitG i.toNat index (g.k i.toNat).N.term 40 g).1 H') := by
  have hp5 : 0 ≤ i ∧ i < 5 := hi
  obtain ⟨h5, _⟩ := isI_nat hi
  have hlenB : ∀ {g' : Gp} {τ' l' u' : Nat}, GB P g' τ' l' u' → u' ≤ 25000 → (g'.k i.toNat).N.log.length ≤ 5000 := fun hb hu' => by have := (hb.nb _ h5).len; have := hb.five; omega
  obtain ⟨term, hterm⟩ : ∃ term, term = (g.k i.toNat).N.term := ⟨_, rfl⟩
  rw [← hterm]
  obtain ⟨a, bm, es, clk, W, wv, hA, hO, rfl⟩ := hG
  have hno := gnode_fn (bg := bg) (g := g) (a := a) (bm := bm) (es := es) (clk := clk) (W := W) (wv := wv) h5 (by have := hlenB h (by omega); omega)
  have hck := gC_k (conf := g.conf) (a := a) (bm := bm) (wv := wv) hi
  refine fn_enter Tryz.func40 (by rfl) (by rfl) ?_
  intro S0 w0
  show Sim _ _ [(0, pW bg), (1, ei i), (2, ei index), (3, ei 0)] ((bg, ⟨tG, gC g.conf a bm wv, 13⟩) :: (bm, ⟨.map es clk, [], 0⟩) :: (W ++ gM a g.k)) _
  refine zC ?_
  apply cr
  refine s_ p_as ?_
  refine zC ?_
  apply cr
  refine s_ p_mv ?_
  refine s_ p_ne ?_
  refine zC ?_
  refine ci (p := ¬ (0 : Int) = 0) (fun h => absurd rfl h) (fun _ => ?_)
  refine zC ?_
  apply cr
  refine s_ p_mv ?_
  refine s_ p_mv ?_
  refine s_ p_nc ?_
  refine s_ p_fr ?_
  refine s_ p_ar ?_
  refine s_ p_fr ?_
  refine s_ (p_lo (hd := by first | rfl | assumption)) ?_
  refine e_cHA hno (fun r H' ⟨hr1, hr2⟩ => ?_)
  subst hr1 hr2
  refine s_ p_fd ?_
  refine s_ p_as ?_
  refine zC ?_
  apply cr
  refine s_ p_as ?_
  refine zC ?_
  apply sim_loopL (σ := Nat × Gp × Heap) (ok := fun s => s.1 ≤ 40 ∧ (∃ τ' l', GB P s.2.1 τ' l' (u + 5 * s.1)) ∧ IsG bg s.2.1 s.2.2 ∧ waitG i.toNat index term 40 g = waitG i.toNat index term (40 - s.1) s.2.1) (env := fun s => [(10, ei s.1), (9, ei term), (0, pW bg), (1, ei i), (2, ei index)]) (heap := fun s => s.2.2) (μ := fun s => 40 - s.1) (s0 := (0, g, gH bg g.conf a bm es clk W wv g.k))
  · exact ⟨Nat.zero_le _, ⟨τ, l, h⟩, ⟨a, bm, es, clk, W, wv, hA, hO, rfl⟩, rfl⟩
  · refine ⟨?_, ?_, eL⟩
    · apply le_get; ((repeat (apply gS; rfl)); exact gZ)
      exact Le.refl _
    · apply le_get; ((repeat (apply gS; rfl)); exact gZ)
      exact Le.of_eq (by rw [hterm])
  · exact kR
  clear hA hO hno hck
  rintro ⟨k, g1, H⟩ ⟨hk, ⟨τ1, l1, hb⟩, hG, hW⟩
  simp only at hk hb hG hW
  have hlen := hlenB hb (by omega)
  obtain ⟨a, bm, es, clk, W, wv, hA, hO, rfl⟩ := hG
  have hno := gnode_fn (bg := bg) (g := g1) (a := a) (bm := bm) (es := es) (clk := clk) (W := W) (wv := wv) h5 (by omega)
  have hck := gC_k (conf := g1.conf) (a := a) (bm := bm) (wv := wv) hi
  obtain ⟨n, hn⟩ : ∃ n, n = (g1.k i.toNat).N := ⟨_, rfl⟩
  have hnb := hb.nb _ h5
  rw [← hn] at hno hlen hnb
  have hbase := hnb.base
  show Sim _ _ [(10, ei k), (9, ei term), (0, pW bg), (1, ei i), (2, ei index)] ((bg, ⟨tG, gC g1.conf a bm wv, 13⟩) :: (bm, ⟨.map es clk, [], 0⟩) :: (W ++ gM a g1.k)) _
  refine zC ?_
  apply cr
  refine s_ p_mv ?_
  refine s_ p_mv ?_
  refine s_ p_nc ?_
  refine s_ p_fr ?_
  refine s_ p_ar ?_
  refine s_ p_fr ?_
  refine s_ (p_lo (hd := by first | rfl | assumption)) ?_
  refine e_cHA hno (fun r H' ⟨hr1, hr2⟩ => ?_)
  subst hr1 hr2
  show SimFrom _ _ _ _ _ ((bg, ⟨tG, gC g1.conf a bm wv, 13⟩) :: (bm, ⟨.map es clk, [], 0⟩) :: (W ++ gM a g1.k)) _
  refine e_al fun b11 _ => ?_
  refine e_st ?_
  refine zC ?_
  apply cr
  refine s_ p_mv ?_
  refine s_ p_fr ?_
  refine s_ p_lo ?_
  refine s_ p_su ?_
  refine s_ p_su ?_
  refine s_ p_as ?_
  refine zC ?_
  apply cr
  refine s_ p_fr ?_
  refine s_ p_lo ?_
  refine s_ p_mv ?_
  refine s_ p_ge ?_
  refine zC ?_
  refine ci ?_ ?_
  · intro hc
    have hc' : index ≤ (g1.k i.toNat).N.commit := by rw [← hn]; exact hc
    have hw1 : waitG i.toNat index term (40 - k) g1 = (g1, sureF n index term) := by
      rw [hn]
      cases 40 - k with
      | zero => unfold waitG; rw [if_pos hc']
      | succ f => unfold waitG; rw [if_pos hc']
    rw [hW, hw1]
    obtain ⟨v, hv⟩ : ∃ v, v = index - n.base - 1 := ⟨_, rfl⟩
    by_cases hr : 0 ≤ v ∧ v < n.log.length
    · have hix : v.toNat < n.log.length := by omega
      have hr' : 0 ≤ v ∧ v < ((n.log.map een).length : Nat) := by rw [List.length_map]; exact hr
      rw [← hv]
      refine zC ?_
      apply cr
      refine s_ p_mv ?_
      refine s_ p_ge ?_
      refine s_ p_mv ?_
      refine gT (fun hg => p_mv) ?_
      refine gT (fun hg => p_fr) ?_
      refine gT (fun hg => p_lo (hx := u_ hg)) ?_
      (first | refine gT (fun hg => p_ln (hx := u_ hg)) ?_ | refine gT (fun hg => p_lr (hx := u_ hg)) ?_)
      refine gT (fun hg => p_lt (hx := u_ hg) (hy := u_ hg)) ?_
      refine s_ p_an ?_
      refine s_ p_mv ?_
      refine gT (fun hg => p_fr) ?_
      refine gT (fun hg => p_lo (hx := u_ hg)) ?_
      refine gT (fun hg => p_mv) ?_
      (first | refine gT (fun hg => p_ix hix (hx := u_ hg) (hy := u_ hg)) ?_ | refine gT (fun hg => p_ix hix2 (hx := u_ hg) (hy := u_ hg)) ?_ | refine gT (fun hg => p_ia (hx := u_ hg) (hy := u_ hg)) ?_ | refine gT (fun hg => p_ir (hx := u_ hg) (hy := u_ hg)) ?_)
      (first | refine gT (fun hg => p_fa (hx := u_ hg)) ?_ | refine gT (fun hg => p_fr (hx := u_ hg)) ?_)
      (first | refine gT (fun hg => p_ld (hx := u_ hg)) ?_ | refine gT (fun hg => p_lo (hx := u_ hg)) ?_)
      refine gT (fun hg => p_mv) ?_
      refine gT (fun hg => p_eq (hx := u_ hg) (hy := u_ hg)) ?_
      refine s_ p_an ?_
      refine zC ?_
      refine ci ?_ ?_
      · intro ht
        refine zC ?_
        apply cr
        refine s_ p_as ?_
        refine zC ?_
        refine zR ?_
        refine rh (.skip _ _ _ kR) ⟨rfl, a, bm, es, clk, W, wv, hA, hO, rfl⟩ ?_
        refine Le.of_eq (congrArg ei ?_)
        unfold sureF
        rw [← hv, if_pos ⟨hr.1, hr.2, by rw [← een_at hix]; exact ht.2⟩]
      · intro ht
        refine zC ?_
        apply cr
        refine s_ p_as ?_
        refine zC ?_
        refine zR ?_
        refine rh (.skip _ _ _ kR) ⟨rfl, a, bm, es, clk, W, wv, hA, hO, rfl⟩ ?_
        refine Le.of_eq (congrArg ei ?_)
        unfold sureF
        rw [← hv, if_neg (fun h1 => ht ⟨hr', by rw [een_at hix]; exact h1.2.2⟩)]
    · have hno' : ¬ (0 ≤ v ∧ v < ((n.log.map een).length : Nat)) := by rw [List.length_map]; exact hr
      rw [← hv]
      refine zC ?_
      apply cr
      refine s_ p_mv ?_
      refine s_ p_ge ?_
      refine s_ p_mv ?_
      refine gT (fun hg => p_mv) ?_
      refine gT (fun hg => p_fr) ?_
      refine gT (fun hg => p_lo (hx := u_ hg)) ?_
      (first | refine gT (fun hg => p_ln (hx := u_ hg)) ?_ | refine gT (fun hg => p_lr (hx := u_ hg)) ?_)
      refine gT (fun hg => p_lt (hx := u_ hg) (hy := u_ hg)) ?_
      refine s_ p_an ?_
      refine s_ p_mv ?_
      (repeat (refine gT (p := 0 ≤ v ∧ v < ((n.log.map een).length : Nat)) (d := .v (.bool (decide False))) (fun hg => absurd hg hno') ?_))
      refine s_ p_an ?_
      refine zC ?_
      refine ci (p := (0 ≤ v ∧ v < ((n.log.map een).length : Nat)) ∧ False) (fun h => h.2.elim) (fun _ => ?_)
      refine zC ?_
      apply cr
      refine s_ p_as ?_
      refine zC ?_
      refine zR ?_
      refine rh (.skip _ _ _ kR) ⟨rfl, a, bm, es, clk, W, wv, hA, hO, rfl⟩ ?_
      refine Le.of_eq (congrArg ei ?_)
      unfold sureF
      rw [← hv, if_neg (fun h1 => hr ⟨h1.1, h1.2.1⟩)]
  intro hc
  have hc' : ¬ index ≤ (g1.k i.toNat).N.commit := by rw [← hn]; exact hc
  refine zC ?_
  apply cr
  refine s_ p_mv ?_
  refine s_ p_eq ?_
  refine zC ?_
  refine ci ?_ ?_
  · intro h40
    have hk40 : k = 40 := by omega
    subst hk40
    have hw1 : waitG i.toNat index term (40 - 40) g1 = (g1, 22) := by
      show waitG i.toNat index term 0 g1 = _
      unfold waitG; rw [if_neg hc']
    rw [hW, hw1]
    refine zC ?_
    apply cr
    refine s_ p_as ?_
    refine zC ?_
    refine zR ?_
    exact rh (.skip _ _ _ kR) ⟨rfl, a, bm, es, clk, W, wv, hA, hO, rfl⟩ (Le.refl _)
  · intro h40
    have hk40 : k < 40 := by omega
    have hcm := gcalm_fn hP bg g1 _ 1 1 (by omega) hb (by omega) ⟨a, bm, es, clk, W, wv, hA, hO, rfl⟩
    obtain ⟨τ2, l2, hb2⟩ := hb.waits hP.toPO (by omega)
    have hw1 : waitG i.toNat index term (40 - k) g1 = waitG i.toNat index term (40 - (k + 1)) (roundG g1) := by
      obtain ⟨f, hf⟩ : ∃ f, 40 - k = f + 1 := ⟨40 - k - 1, by omega⟩
      rw [hf, show 40 - (k + 1) = f by omega]
      conv => lhs; unfold waitG
      rw [if_neg hc']
    refine zC ?_
    apply cr
    refine s_ p_mv ?_
    refine e_cH (Hr := [_]) hcm (List.perm_append_comm (l₁ := [_])) (fun r H' ⟨hr1, hr2⟩ => ?_)
    subst hr1
    refine from_perm (List.perm_append_comm (l₂ := [_])) ?_
    
    refine zC ?_
    apply cr
    refine s_ p_mv ?_
    refine s_ p_ad ?_
    refine s_ p_as ?_
    refine zC ?_
    refine ⟨(k + 1, roundG g1, H'), ⟨by simp only; omega, ⟨τ2, l2, ?_⟩, hr2, ?_⟩, (by simp only []; omega), ⟨?_, eL⟩, .skip _ _ _ kR⟩
    · simp only
      have e : u + 5 * k + 5 = u + 5 * (k + 1) := by omega
      rw [← e]; exact hb2
    · simp only
      rw [hW, hw1]
    · apply le_get; ((repeat (apply gS; rfl)); exact gZ)
      exact Le.refl _
end Go.Proofs.YtjbokbikkcfjjaaGreat
end
