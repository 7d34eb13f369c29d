/-
  A call with more blocks beside those that it is given.
  group: wait, asked, Do, Change.
  group: asked, Do, Change.
  Chapter 20 in plain words: a committee whose disks are whole, as nodes alone.
  group: New.
  Chapter 20: the entries of a committee that is asked for short commands.
  Chapter 20's laws: within, known.
  GroupNet: messages under way are told, brought, lost, brought twice by their places.
  From the contracts to the rows: a function that only computes 'true' keeps what was there.
-/
import Derived.Test.YtjbokbikkcfjjaaGreatAam
import Derived.Test.YtjbokbikkcfjjaaGreatAbb
import Derived.Test.YtjbokbikkcfjjaaGreatAba
import Derived.Test.YtjbokbikkcfjjaaGreatAaw
import Derived.Test.YtjbokbikkcfjjaaGreatAaz
import Derived.Test.YtjbokbikkcfjjaaGreatAaf
import Derived.ProofKit
section
namespace Go.Cap
theorem FnH.framed {P : Program} {f : FuncId} {args : List T} {H Hs Hr : Heap} {Φ Ψ : T → Heap → Prop} (hf : FnH P f args Hs Φ) (hp : H.Perm (Hs ++ Hr)) (hΦ : ∀ r H1, Φ r H1 → ∃ H', (H1 ++ Hr).Perm H' ∧ Ψ r H') : FnH P f args H Ψ := by
  intro S w vs hw ho hr
  have hoP := ho.perm hp
  refine (hf S w vs hw hoP.left hr).mono ?_
  rintro e w' ⟨u, S', r, H1, rfl, hΦ', hrel, hown, hst, hkeys⟩
  obtain ⟨H', hP, hΨ⟩ := hΦ r H1 hΦ'
  have hsS : ∀ b ∈ keys Hs, ¬ S b := hoP.left.apart
  have hm := hst.mono hw hsS
  have hownA : Own S' w' (H1 ++ Hr) := by
    refine ⟨?_, ?_, ?_⟩
    · rw [keys_append]
      refine List.nodup_append.2 ⟨hown.nodup, hoP.right.nodup, fun b hb c hc' e => ?_⟩
      subst e
      rcases hkeys b hb with h1 | h1
      · exact hoP.disj b h1 hc'
      · have := hoP.right.lt b hc'; omega
    · intro b hb hS
      rw [keys_append] at hb
      rcases List.mem_append.1 hb with hb | hb
      · exact hown.apart b hb hS
      · rcases hst.new b hS with h1 | h1 | h1
        · exact hoP.right.apart b hb h1
        · have := hoP.right.lt b hb; omega
        · exact hoP.disj b h1 hb
    · intro p hp'
      rcases List.mem_append.1 hp' with hp' | hp'
      · exact hown.has p hp'
      · have hk' : p.1 ∈ keys Hr := List.mem_map.2 ⟨p, hp', rfl⟩
        have h1 := hoP.right.has p hp'
        exact h1.mono (hst.keep _ h1.lt (fun h => hoP.disj _ h hk')) hm
  have hkp : ∀ b, b ∈ keys H ↔ b ∈ keys (Hs ++ Hr) := fun b => (keys_perm hp).mem_iff
  refine ⟨u, S', r, H', rfl, hΨ, hrel, hownA.perm hP, hst.weaken fun b hb => .inl ((hkp b).2 (by rw [keys_append]; exact List.mem_append_left _ hb)), fun b hb => ?_⟩
  have hb' : b ∈ keys (H1 ++ Hr) := (keys_perm hP).mem_iff.2 hb
  rw [keys_append] at hb'
  rcases List.mem_append.1 hb' with h | h
  · rcases hkeys b h with h1 | h1
    · exact .inl ((hkp b).2 (by rw [keys_append]; exact List.mem_append_left _ h1))
    · exact .inr h1
  · exact .inl ((hkp b).2 (by rw [keys_append]; exact List.mem_append_right _ h))
end Go.Cap
end
section
set_option maxRecDepth 16000
namespace Go.Proofs.YtjbokbikkcfjjaaGreat
open Go.Cap
set_option linter.unusedSimpArgs false
set_option linter.unusedVariables false
attribute [local irreducible] POp SimFrom DrawFrom EOp Sim FnH T.gp
theorem gnode_fn {bg : Nat} {g : Gp} {a : Nat → Ad} {bm : Nat} {es : List (Value × T × Nat)} {clk : Nat} {W : Heap} {wv : Value} {i : Nat} (hi : i < 5) (hl : (g.k i).N.log.length ≤ 1000000000) :
    FnH Tryz.prog 23 [pW (a i).bk] (gH bg g.conf a bm es clk W wv g.k) (fun r H' => r = nd (g.k i).N ∧ H' = gH bg g.conf a bm es clk W wv g.k) := by
  have hk := kNode_fn (a i).bk (a i).bj (a i).bd (g.k i) hl
  have hperm := perm3 (x := (bg, ⟨tG, gC g.conf a bm wv, 13⟩)) (y := (bm, ⟨.map es clk, [], 0⟩)) (W := W) (gM_at a g.k hi)
  exact FnH.framed hk hperm (fun r H1 ⟨h1, h2⟩ => ⟨_, by rw [h2]; exact hperm.symm, h1, rfl⟩)
end Go.Proofs.YtjbokbikkcfjjaaGreat
end
section
set_option maxRecDepth 16000
namespace Go.Proofs.YtjbokbikkcfjjaaGreat
open Go.Cap
set_option linter.unusedSimpArgs false
set_option linter.unusedVariables false
attribute [local irreducible] POp SimFrom DrawFrom EOp Sim FnH T.gp
def PutBy (P : Nat → En → Prop) (N t : Nd) (e : Int) : Prop := (¬ e = 0 ∧ t = N) ∨ (e = 0 ∧ N.role = 2 ∧ ∃ en, t = putF N en ∧ P N.log.length ⟨N.term, en.conf, en.cmd⟩)
section
variable {P : Nat → En → Prop} {g : Gp} {τ l u : Nat}
theorem PutBy.nb {N t : Nd} {e : Int} (h : NB P N τ l) (hb : PutBy P N t e) : NB P t τ (l + 1) ∧ Go.Proofs.YtjbokbikkcfjjaaGreat.pot t ≤ Go.Proofs.YtjbokbikkcfjjaaGreat.pot N := by
  rcases hb with ⟨_, rfl⟩ | ⟨_, hr, en, rfl, hp⟩
  · exact ⟨h.le (Nat.le_refl _) (by omega), Nat.le_refl _⟩
  · exact h.put hr hp
theorem PutBy.id {N t : Nd} {e : Int} (hb : PutBy P N t e) : t.id = N.id := by
  rcases hb with ⟨_, rfl⟩ | ⟨_, hr, en, rfl, hp⟩
  · rfl
  · exact commitF_id (putN N en)
theorem putG_eq (g : Gp) (i : Nat) (t : Nd) (e : Int) : putG g i t e = { g with ks := g.ks.set i (keepF (g.k i) t e).1, way := g.way ++ [] } := by unfold putG; rw [List.append_nil]
theorem GB.put (h : GB P g τ l u) {i : Nat} (hi : i < 5) {t : Nd} {e : Int} (hb : PutBy P (g.k i).N t e) : ∃ l', GB P (putG g i t e) τ l' (u + 5) ∧ l ≤ l' := by
  obtain ⟨h1, h2⟩ := keep_ki (h.ki i hi) t e
  have hn := h.nb i hi
  obtain ⟨n1, n2⟩ := hb.nb hn
  have hg : (keepF (g.k i) t e).1.N = t ∨ (keepF (g.k i) t e).1.N = (g.k i).N := by
    split at h2
    · exact .inl h2
    · exact .inr h2
  have hil : i < g.ks.length := by rw [h.ks]; exact hi
  have hk : g.ks[i] = g.k i := by unfold Gp.k; rw [List.getD_eq_getElem?_getD, List.getElem?_eq_getElem hil, Option.getD_some]
  rw [putG_eq]
  refine ⟨l + 1, ⟨by simp [h.ks], h.aw, fun j hj => ?_, fun j hj => ?_, fun j hj => ?_, fun m hm => ?_, ?_, ?_, by have := h.tau; omega⟩, by omega⟩
  · rw [Gp.k_set (by rw [h.ks]; exact hj)]; split
    · exact h1
    · exact h.ki j hj
  · rw [Gp.k_set (by rw [h.ks]; exact hj)]; split
    · rename_i e0; subst e0
      rcases hg with e1 | e1
      · rw [e1, hb.id]; exact h.id i hi
      · rw [e1]; exact h.id i hi
    · exact h.id j hj
  · rw [Gp.k_set (by rw [h.ks]; exact hj)]; split
    · rcases hg with e1 | e1
      · rw [e1]; exact n1
      · rw [e1]; exact hn.le (Nat.le_refl _) (by omega)
    · exact (h.nb j hj).le (Nat.le_refl _) (by omega)
  · rw [List.append_nil] at hm
    exact (h.way m hm).le (Nat.le_refl _) (by omega)
  · have := h.many; simp only [List.append_nil]; omega
  · have := set_sum (fun K => Go.Proofs.YtjbokbikkcfjjaaGreat.pot K.N) g.ks i (keepF (g.k i) t e).1 hil
    rw [hk] at this
    have hf := h.fuel
    have hpn : Go.Proofs.YtjbokbikkcfjjaaGreat.pot (keepF (g.k i) t e).1.N ≤ Go.Proofs.YtjbokbikkcfjjaaGreat.pot (g.k i).N := by
      rcases hg with e1 | e1
      · rw [e1]; exact n2
      · rw [e1]; exact Nat.le_refl _
    simp only at this ⊢
    omega
end
end Go.Proofs.YtjbokbikkcfjjaaGreat
end
section
set_option maxRecDepth 16000
namespace Go.Proofs.YtjbokbikkcfjjaaGreat
open Go.Cap
structure Gn where
  ns : List Nd
  aw : List Bool
  way : List Ms
def Gn.n (g : Gn) (i : Nat) : Nd := g.ns.getD i default
def thN (g : Gn) (i : Int) : Bool := decide (isI i) && !(g.aw.getD i.toNat false)
def didN (g : Gn) (i : Nat) (t : Nd) (l : List Ms) : Gn := { g with ns := g.ns.set i t, way := g.way ++ l }
def tickN (g : Gn) (i : Int) : Gn := if thN g i then didN g i.toNat (tickF (g.n i.toNat)).1 (tickF (g.n i.toNat)).2 else g
def takeN (g : Gn) (m : Ms) : Gn := if thN g m.to then didN g m.to.toNat (takeF (g.n m.to.toNat) m).1 (takeF (g.n m.to.toNat) m).2 else g
def ticksN (g : Gn) (k : Nat) : Gn := (List.range k).foldl (fun g (i : Nat) => tickN g (i : Int)) g
def roundN (g : Gn) : Gn := ticksN (g.way.foldl takeN { g with way := [] }) 5
def calmN (g : Gn) : Nat → Gn
  | 0 => g
  | n + 1 => roundN (calmN g n)
def newN (conf : Int) : Gn := ⟨(List.range 5).map fun (i : Nat) => newF (i : Int) conf, [false, false, false, false, false], []⟩
def prG (g : Gp) : Gn := ⟨g.ks.map (·.N), g.aw, g.way⟩
structure LiveK (n0 : Nd) (K : Kp) : Prop where
  live : Live n0 524100 K
  left : K.d.left = 0
  room : K.d.room = 1048576
def GL (conf : Int) (g : Gp) : Prop := ∀ i : Nat, i < 5 → LiveK (newF i conf) (g.k i)
section
variable {P : Nat → En → Prop} {g : Gp} {τ l u : Nat} {conf : Int}
theorem prG_n (g : Gp) (i : Nat) (hi : i < g.ks.length) : (prG g).n i = (g.k i).N := by
  unfold Gn.n prG Gp.k
  simp [List.getD_eq_getElem?_getD, hi]
theorem GL.there (h : GL conf g) (i : Int) : thereG g i = thN (prG g) i := by
  unfold thereG thN
  by_cases hi : isI i
  · have := (h _ (isI_nat hi).1).live.dead
    rw [this]; simp [prG]
  · simp [hi]
theorem LiveK.keep {n0 : Nd} {K : Kp} (h : LiveK n0 K) {t : Nd} (hid : t.id = n0.id) (hsz : Sz t) (hr : (recB t 0).length ≤ 524100) : (keepF K t 0).2 = 0 ∧ LiveK n0 (keepF K t 0).1 ∧ (keepF K t 0).1.N = t := by
  obtain ⟨K', h1, h2, h3, h4, h5⟩ := live_step h.live h.left (by rw [h.room]; omega) hid hsz hr (by omega)
  rw [h1]
  exact ⟨rfl, ⟨h2, h4, by rw [h5]; exact h.room⟩, h3⟩
theorem GL.set (h : GL conf g) (hks : g.ks.length = 5) {i : Nat} {K : Kp} (w : List Ms) (hK : LiveK (newF i conf) K) : GL conf { g with ks := g.ks.set i K, way := w } := by
  intro j hj
  rw [Gp.k_set (by rw [hks]; exact hj)]
  split
  · rename_i e; subst e; exact hK
  · exact h j hj
theorem GL.did (h : GL conf g) (hks : g.ks.length = 5) {i : Nat} (hi : i < 5) {t : Nd} {out : List Ms} (hid : t.id = i) (hsz : Sz t) (hr : (recB t 0).length ≤ 524100) : GL conf (didG g i t out) ∧ prG (didG g i t out) = didN (prG g) i t out := by
  obtain ⟨h1, h2, h3⟩ := (h i hi).keep (t := t) (by rw [hid]; rfl) hsz hr
  unfold didG
  rw [if_pos h1]
  refine ⟨h.set hks _ h2, ?_⟩
  unfold prG didN
  simp only [List.map_set, h3]
theorem GL.tick (hP : PK P) (h : GL conf g) (hb : GB P g τ l u) (hu : u + 1 ≤ 25000) (i : Int) : GL conf (tickG g i) ∧ prG (tickG g i) = tickN (prG g) i := by
  unfold tickG tickN
  rw [h.there]
  split
  · rename_i hth
    have hth' : thereG g i = true := by rw [h.there]; exact hth
    obtain ⟨h5, _⟩ := isI_nat (thereG_is hth')
    have hw := (hb.nb _ h5).tick hP.toPO (by have := hb.tau; omega)
    obtain ⟨hsz, hrc⟩ := hw.sz hP (by have := hb.pot h5; omega) (by have := hb.tau; omega)
    rw [prG_n g _ (by rw [hb.ks]; exact h5)]
    exact h.did hb.ks h5 ((tickF_id _).trans (hb.id _ h5)) hsz hrc
  · exact ⟨h, rfl⟩
theorem GL.take (hP : PK P) (h : GL conf g) (hb : GB P g τ l u) (hu : u ≤ 25000) {m : Ms} (hm : MB P m τ l) : GL conf (takeG g m) ∧ prG (takeG g m) = takeN (prG g) m := by
  unfold takeG takeN
  rw [h.there]
  split
  · rename_i hth
    have hth' : thereG g m.to = true := by rw [h.there]; exact hth
    obtain ⟨h5, _⟩ := isI_nat (thereG_is hth')
    have hw := (hb.nb _ h5).take hP.toPO hm (by have := hb.tau; omega)
    obtain ⟨hsz, hrc⟩ := hw.sz hP (by have := hb.pot h5; omega) (by have := hb.tau; omega)
    rw [prG_n g _ (by rw [hb.ks]; exact h5)]
    exact h.did hb.ks h5 ((takeF_id _ _).trans (hb.id _ h5)) hsz hrc
  · exact ⟨h, rfl⟩
theorem GL.takes (hP : PK P) (hu : u ≤ 25000) : ∀ (ms : List Ms) {g : Gp} {l : Nat}, GL conf g → GB P g τ l u → (∀ m ∈ ms, MB P m τ l) → g.way.length + ms.length ≤ 5 * (u + l) → GL conf (ms.foldl takeG g) ∧ prG (ms.foldl takeG g) = ms.foldl takeN (prG g)
  | [], g, l, h, _, _, _ => ⟨h, rfl⟩
  | m :: ms, g, l, h, hb, hm, hw => by
    rw [List.length_cons] at hw
    have ht := hb.tau
    obtain ⟨h1, h2⟩ := h.take hP hb hu (hm m List.mem_cons_self)
    obtain ⟨l1, h3, h4, h5⟩ := hb.take hP.toPO (by omega) (hm m List.mem_cons_self) (by omega)
    obtain ⟨h6, h7⟩ := GL.takes hP hu ms h1 h3 (fun x hx => (hm x (List.mem_cons_of_mem _ hx)).le (Nat.le_refl _) h4) (by omega)
    exact ⟨h6, by rw [List.foldl_cons, h7, h2, List.foldl_cons]⟩
theorem ticksN_succ (g : Gn) (k : Nat) : ticksN g (k + 1) = tickN (ticksN g k) (k : Int) := by
  unfold ticksN
  rw [List.range_succ, List.foldl_append]
  rfl
theorem GL.ticks (hP : PK P) (h : GL conf g) (hb : GB P g τ l u) : ∀ k : Nat, u + k ≤ 25000 → GL conf (ticksG g k) ∧ prG (ticksG g k) = ticksN (prG g) k
  | 0, _ => ⟨h, rfl⟩
  | k + 1, hu => by
    have ht := hb.tau
    obtain ⟨h1, h2⟩ := GL.ticks hP h hb k (by omega)
    obtain ⟨l1, h3, _⟩ := hb.ticks hP.toPO k (by omega)
    obtain ⟨h4, h5⟩ := h1.tick hP h3 (by omega) (k : Int)
    rw [ticks_succ, ticksN_succ, h5, h2]
    exact ⟨h4, rfl⟩
theorem GL.out (h : GL conf g) (w : List Ms) : GL conf { g with way := w } := h
theorem GL.round (hP : PK P) (h : GL conf g) (hb : GB P g τ l u) (hu : u + 5 ≤ 25000) : GL conf (roundG g) ∧ prG (roundG g) = roundN (prG g) := by
  have ht := hb.tau
  have hb0 := hb.out (w := []) (by simp) (by simp)
  obtain ⟨h1, h2⟩ := GL.takes hP (by omega) g.way (h.out []) hb0 hb.way (by simpa using hb.many)
  obtain ⟨l1, h3, _⟩ := GB.takes hP.toPO (by omega) g.way hb0 hb.way (by simpa using hb.many)
  obtain ⟨h4, h5⟩ := h1.ticks hP h3 5 (by omega)
  unfold roundG roundN
  exact ⟨h4, by rw [h5, h2]; rfl⟩
theorem GL.calm (hP : PK P) (h : GL conf g) (hb : GB P g τ l u) : ∀ k : Nat, u + 5 * k ≤ 25000 → GL conf (calmG g k) ∧ prG (calmG g k) = calmN (prG g) k
  | 0, _ => ⟨h, rfl⟩
  | k + 1, hu => by
    have ht := hb.tau
    obtain ⟨h1, h2⟩ := GL.calm hP h hb k (by omega)
    obtain ⟨l1, h3, _⟩ := hb.calm hP.toPO k (by omega)
    obtain ⟨h4, h5⟩ := h1.round hP h3 (by omega)
    exact ⟨h4, by show prG (roundG (calmG g k)) = _; rw [h5, h2]; rfl⟩
end
theorem known30 : ((calmN (newN 7) 30).n 0).role = 2 := by decide +kernel
theorem known12 : (calmN (newN 7) 12).way.length ≤ 20 := by decide +kernel
end Go.Proofs.YtjbokbikkcfjjaaGreat
end
section
set_option maxRecDepth 16000
namespace Go.Proofs.YtjbokbikkcfjjaaGreat
open Go.Cap
set_option linter.unusedSimpArgs false
set_option linter.unusedVariables false
attribute [local irreducible] POp SimFrom DrawFrom EOp Sim FnH T.gp
def d0 : Dk := ⟨0, 0, false, [], 0, [], 1048576⟩
theorem new_sz {id conf : Int} (h0 : 0 ≤ id) (h1 : id < 5) (h2 : 0 ≤ conf) (h3 : conf ≤ 31) : Sz (newF id conf) ∧ (recB (newF id conf) 0).length ≤ 524100 := by
  have hk := new_nk h0 h1 h2 h3
  exact ⟨hk.sz (by omega), by have := hk.rec_; omega⟩
theorem gopen_fn (bd : Nat) (id conf : Int) (h0 : 0 ≤ id) (h1 : id < 5) (h2 : 0 ≤ conf) (h3 : conf ≤ 31) :
    FnH Tryz.prog 34 [pW bd, ei id, ei conf] (DkH bd d0) (fun r H => ∃ bk bj K2, r = .tup [pW bk, ei 0] ∧ H = mH ⟨bd, bk, bj⟩ K2 ∧ LiveK (newF id conf) K2 ∧ K2.N = newF id conf) := by
  obtain ⟨s1, s2⟩ := new_sz h0 h1 h2 h3
  have hl := new_live (n0 := newF id conf) (R := 524100) 1048576 rfl s1 s2 (by omega) (by omega)
  refine FnH.mono (open_live bd id conf hl rfl (new_fn id conf h0 h1 h2 h3) rfl (by simp [newF]) (by omega) s1 s2) ?_
  rintro r H ⟨bk, bj, K2, e1, e2, e3, e4, e5⟩
  exact ⟨bk, bj, K2, e1, e2, ⟨e3, by rw [e5], by rw [e5]⟩, e4⟩
def gN (conf : Int) (a : Nat → Ad) (n : Nat) (bm : Nat) : List T :=
  let p := fun (j : Nat) (x : Nat) => if j < n then pW x else .v (.pointer none)
  [ei conf, p 0 (a 0).bd, p 0 (a 0).bk, p 1 (a 1).bd, p 1 (a 1).bk, p 2 (a 2).bd, p 2 (a 2).bk, p 3 (a 3).bd, p 3 (a 3).bk, p 4 (a 4).bd, p 4 (a 4).bk, .v (.map (some bm)), .v (.slice none 0 0)]
theorem gN_up (conf : Int) (a : Nat → Ad) {n : Nat} (hn : n < 5) (bm : Nat) (x : Ad) : LayR (gN conf a n bm) (0 + 1 + ((n : Nat) : Int).toNat * 2) [pW x.bd, pW x.bk] (gN conf (upA a n x) (n + 1) bm) := by
  have h : ∀ n : Fin 5, LayR (gN conf a n.val bm) (0 + 1 + ((n.val : Nat) : Int).toNat * 2) [pW x.bd, pW x.bk] (gN conf (upA a n.val x) (n.val + 1) bm) := by
    intro n
    match n with
    | 0 => show LayR _ 1 _ _; unfold gN upA; ((repeat (apply LayR.skip)); (repeat (apply LayR.cons)); exact LayR.nil _)
    | 1 => show LayR _ 3 _ _; unfold gN upA; ((repeat (apply LayR.skip)); (repeat (apply LayR.cons)); exact LayR.nil _)
    | 2 => show LayR _ 5 _ _; unfold gN upA; ((repeat (apply LayR.skip)); (repeat (apply LayR.cons)); exact LayR.nil _)
    | 3 => show LayR _ 7 _ _; unfold gN upA; ((repeat (apply LayR.skip)); (repeat (apply LayR.cons)); exact LayR.nil _)
    | 4 => show LayR _ 9 _ _; unfold gN upA; ((repeat (apply LayR.skip)); (repeat (apply LayR.cons)); exact LayR.nil _)
  exact h ⟨n, hn⟩
def gMk (a : Nat → Ad) (k : Nat → Kp) (n : Nat) : Heap := (List.range n).flatMap fun j => mH (a j) (k j)
theorem gMk_succ (a : Nat → Ad) (k : Nat → Kp) (n : Nat) (x : Ad) (K : Kp) : gMk (upA a n x) (upA k n K) (n + 1) = gMk a k n ++ mH x K := by
  unfold gMk
  rw [List.range_succ, List.flatMap_append, List.flatMap_cons, List.flatMap_nil, List.append_nil]
  congr 1
  · have h : ∀ l : List Nat, (∀ j ∈ l, j < n) → (l.flatMap fun j => mH (upA a n x j) (upA k n K j)) = l.flatMap fun j => mH (a j) (k j) := by
      intro l
      induction l with
      | nil => intro _; rfl
      | cons j l ih =>
        intro hl
        have hj := hl j List.mem_cons_self
        rw [List.flatMap_cons, List.flatMap_cons, ih fun y hy => hl y (List.mem_cons_of_mem _ hy)]
        unfold upA
        rw [if_neg (by omega), if_neg (by omega)]
    exact h _ fun j hj => List.mem_range.1 hj
  · simp [upA]
def newG (conf : Int) (k : Nat → Kp) : Gp := ⟨conf, (List.range 5).map k, [false, false, false, false, false], []⟩
theorem newG_k (conf : Int) (k : Nat → Kp) {i : Nat} (hi : i < 5) : (newG conf k).k i = k i := by
  unfold newG Gp.k
  simp only [List.getD_eq_getElem?_getD, List.getElem?_map, List.getElem?_range hi, Option.map_some, Option.getD_some]
set_option maxHeartbeats 4000000 in
theorem gnew_fn (P : Nat → En → Prop) (conf : Int) (h1 : 1 ≤ conf) (h2 : conf ≤ 31) : FnH Tryz.prog 10 [ei conf] [] (fun r H => ∃ bg g, r = .tup [pW bg, ei 0] ∧ IsG bg g H ∧ GB P g 0 0 0 ∧ GL conf g ∧ prG g = newN conf ∧ g.conf = conf) := by
  refine fn_enter Tryz.func10 (by rfl) (by rfl) ?_
  intro S0 w0
  show Sim _ _ [(0, ei conf)] [] _
  refine zC ?_
  apply cr
  refine s_ p_as ?_
  refine s_ p_as ?_
  refine zC ?_
  apply cr
  refine s_ p_mv ?_
  refine s_ p_lt ?_
  refine s_ p_mv ?_
  refine gF (fun hg => p_mv) ?_
  refine gF (fun hg => p_gt (hx := u_ hg)) ?_
  refine s_ p_or ?_
  refine zC ?_
  refine ci ?_ ?_
  · intro hc; omega
  intro _
  refine zC ?_
  apply cr
  refine s_ p_mv ?_
  refine e_mkm fun b17 _ => ?_
  refine s_ (p_bd 13 [_, _, _, _, _, _, _, _, _, _, _, _, _]) ?_
  refine e_bx fun b19 _ => ?_
  refine s_ p_as ?_
  refine zC ?_
  apply cr
  refine s_ p_mv ?_
  refine zC ?_
  apply sim_loopL (σ := Nat × (Nat → Ad) × (Nat → Kp)) (ok := fun s => s.1 ≤ 5 ∧ ∀ j : Nat, j < s.1 → LiveK (newF j conf) (s.2.2 j) ∧ (s.2.2 j).N = newF j conf) (env := fun s => [(20, ei s.1), (4, pW b19), (0, ei conf)]) (heap := fun s => (b19, ⟨tG, gN conf s.2.1 s.1 b17, 13⟩) :: (b17, ⟨.map [] 0, [], 0⟩) :: gMk s.2.1 s.2.2 s.1) (μ := fun s => 5 - s.1) (s0 := (0, fun _ => ⟨0, 0, 0⟩, fun _ => default))
  · exact ⟨Nat.zero_le _, fun j hj => absurd hj (Nat.not_lt_zero j)⟩
  · exact eL
  · exact kR
  rintro ⟨n, a, k⟩ ⟨hn, hk⟩
  simp only at hn hk
  show Sim _ _ [(20, ei n), (4, pW b19), (0, ei conf)] ((b19, ⟨tG, gN conf a n b17, 13⟩) :: (b17, ⟨.map [] 0, [], 0⟩) :: gMk a k n) _
  refine zC ?_
  apply cr
  refine s_ p_lt ?_
  refine zC ?_
  refine ci ?_ ?_
  · intro hlt
    have hn5 : n < 5 := by omega
    have hD := newD_fn 1048576 (by omega) (by omega)
    refine zC ?_
    apply cr
    refine s_ p_mv ?_
    refine s_ p_as ?_
    refine zC ?_
    apply cr
    refine e_cH (Hs := []) hD (List.Perm.refl _) (fun r H' ⟨bd, hr1, hr2⟩ => ?_)
    subst hr1 hr2
    have hO := gopen_fn bd n conf (by omega) (by omega) (by omega) h2
    refine s_ p_mv ?_
    refine s_ p_ex ?_
    refine s_ p_ex ?_
    refine s_ p_as ?_
    refine s_ p_as ?_
    refine zC ?_
    apply cr
    refine s_ p_mv ?_
    refine s_ p_mv ?_
    refine s_ p_mv ?_
    refine e_cH hO (List.Perm.refl _) (fun r H' ⟨bk, bj, K2, hr1, hr2, hL, hN⟩ => ?_)
    subst hr1 hr2
    refine from_perm (H' := (b19, ⟨tG, gN conf a n b17, 13⟩) :: (b17, ⟨.map [] 0, [], 0⟩) :: (gMk a k n ++ mH ⟨bd, bk, bj⟩ K2)) ?_ ?_
    · have := (List.perm_append_comm (l₁ := mH ⟨bd, bk, bj⟩ K2) (l₂ := (b19, ⟨tG, gN conf a n b17, 13⟩) :: (b17, ⟨.map [] 0, [], 0⟩) :: gMk a k n))
      exact this
    have hlay := gN_up conf a hn5 b17 ⟨bd, bk, bj⟩
    refine s_ p_mv ?_
    refine s_ p_ex ?_
    refine s_ p_ex ?_
    refine s_ p_as ?_
    refine s_ p_as ?_
    refine zC ?_
    apply cr
    refine s_ p_mv ?_
    refine s_ p_mv ?_
    refine s_ p_mv ?_
    refine s_ p_mv ?_
    refine s_ (p_bd 2 [_, _]) ?_
    refine s_ p_nc ?_
    refine s_ p_fr ?_
    refine s_ p_ar ?_
    refine e_st (hc := hlay) ?_
    
    refine zC ?_
    apply cr
    refine s_ p_ad ?_
    refine s_ p_mv ?_
    refine zC ?_
    refine ⟨(n + 1, upA a n ⟨bd, bk, bj⟩, upA k n K2), ⟨by simp only; omega, fun j hj => ?_⟩, (by simp only []; omega), ⟨?_, eL⟩, ?_⟩
    · simp only
      unfold upA
      by_cases hjn : j = n
      · subst hjn; rw [if_pos rfl]; exact ⟨hL, hN⟩
      · rw [if_neg hjn]; exact hk j (by simp only at hj; omega)
    · apply le_get; ((repeat (apply gS; rfl)); exact gZ)
      exact Le.refl _
    · simp only
      rw [gMk_succ]
      exact kR
  · intro hge
    have hn5 : n = 5 := by omega
    subst hn5
    refine zC ?_
    apply cr
    refine s_ p_mv ?_
    refine s_ p_as ?_
    refine s_ p_as ?_
    refine zC ?_
    refine zR ?_
    have hke : ∀ i : Nat, i < 5 → (newG conf k).k i = k i := fun i hi => newG_k conf k hi
    refine rh kR ⟨b19, newG conf k, rfl, ⟨a, b17, [], 0, [], .slice none 0 0, ⟨KeysOk.nil _, fun i hi => ?_⟩, osl_nil, ?_⟩, ?_, ?_, ?_, rfl⟩ (Le.refl _)
    · have h : ∀ i : Fin 5, (newG conf k).aw.getD i.val false = false := by
        intro i
        match i with
        | 0 | 1 | 2 | 3 | 4 => rfl
      rw [h ⟨i, hi⟩]; rfl
    · show _ = gH b19 conf a b17 [] 0 [] (.slice none 0 0) (newG conf k).k
      unfold gH
      rw [gM_eq a k (newG conf k).k hke]
      rfl
    · refine ⟨by simp [newG], rfl, fun i hi => ?_, fun i hi => ?_, fun i hi => ?_, by simp [newG], by simp [newG], ?_, Nat.le_refl _⟩
      · rw [hke i hi]
        have hl := (hk i hi).1.live
        obtain ⟨so, rs, hc, hnn⟩ := hl.cont
        exact ⟨hl.dk, by omega, by have := hc.len; omega⟩
      · rw [hke i hi, (hk i hi).2]; rfl
      · rw [hke i hi, (hk i hi).2]; exact new_nb (by omega) (by omega) (by omega) h2
      · have : ((newG conf k).ks.map fun K => Go.Proofs.YtjbokbikkcfjjaaGreat.pot K.N) = (List.range 5).map fun i => 0 := by
          unfold newG
          rw [List.map_map]
          refine List.map_congr_left fun i hi => ?_
          have hi5 := List.mem_range.1 hi
          show Go.Proofs.YtjbokbikkcfjjaaGreat.pot (k i).N = 0
          rw [(hk i hi5).2]; rfl
        rw [this]; decide
    · intro i hi
      rw [hke i hi]; exact (hk i hi).1
    · unfold prG newN newG
      simp only [Gn.mk.injEq, and_true]
      rw [List.map_map]
      refine List.map_congr_left fun i hi => ?_
      exact (hk i (List.mem_range.1 hi)).2
end Go.Proofs.YtjbokbikkcfjjaaGreat
end
section
set_option maxRecDepth 16000
namespace Go.Proofs.YtjbokbikkcfjjaaGreat
open Go.Cap
def PS (_ : Nat) (e : En) : Prop := Ek e 100000
theorem pk_short : PK PS where
  conf := fun _ _ h => ⟨h.c0, h.c1⟩
  own := fun _ t h0 h1 => ⟨h0, by simp only; omega, Int.le_refl _, by simp only; omega, by simp⟩
  sz := fun _ e h => ⟨⟨by have := h.t0; omega, by have := h.t1; omega⟩, ⟨by have := h.c0; omega, by have := h.c1; omega⟩, by have := h.cmd; omega⟩
  rec_ := fun l hl h => by
    have : ∀ e ∈ l, Ek e 100000 := fun e he => by
      obtain ⟨i, hi⟩ := List.mem_iff_getElem?.1 he
      exact h i e hi
    have := ents_small l this
    omega
end Go.Proofs.YtjbokbikkcfjjaaGreat
end
section
set_option maxRecDepth 16000
namespace Go.Cap
section
variable {P : Program} {t : Env} {H : Heap} {dst : Option Tmp} {tp : TypeId} {pos : String} {aft : Array Edge} {g : Option (Nat × Bool)} {ty ty' : TypeId} {x : Operand}
theorem run_eq_ptr00 {e : TypeId} (w : World) {ty : TypeId} (hu : P.underlying ty = some (.pointer e)) (d : Nat) : (Op.equalIn (d + 1) ty (.pointer none) (.pointer none)).run P w = .ok true w := by
  simp [Op.equalIn, run_underlying hu]
theorem run_eq_ptrN {e : TypeId} (w : World) {ty : TypeId} (hu : P.underlying ty = some (.pointer e)) : (Op.equal ty (.pointer none) (.pointer none)).run P w = .ok true w := run_eq_ptr00 w hu 9999
theorem p_nP0 {e : TypeId} (hx : autoParam (t.ev x = .v (.pointer none)) zl._auto_1) (hu : P.underlying ty = some (.pointer e) := by rfl) : POp P t H ⟨dst, .binOp .neq ty x (.const (.pointer none)) ty', tp, pos, aft, g⟩ (.v (.bool (decide False))) :=
  pop_bin hx rfl fun w => by
    have := run_eq_ptrN w hu
    simp [eqGuard, binOp, this]
end
end Go.Cap
namespace Go.Proofs.YtjbokbikkcfjjaaGreat
open Go.Cap
set_option linter.unusedSimpArgs false
set_option linter.unusedVariables false
attribute [local irreducible] POp SimFrom DrawFrom EOp Sim FnH T.gp
theorem tmod_bd0 (a : Int) {k : Int} (hk : 0 < k) : -k < a.tmod k ∧ a.tmod k < k := ⟨Int.lt_tmod_of_pos a hk, Int.tmod_lt_of_pos a hk⟩
theorem tmod_up0 (a : Int) {k : Int} (hk : 0 < k) : (if a.tmod k < 0 then a.tmod k + k else a.tmod k) = a % k := by
  have h := tmod_fix a k hk
  split
  · rename_i h1; exact h.1 h1
  · rename_i h1; exact h.2 h1
theorem within20_fn (a k : Int) (hk : 0 < k) (hk1 : k ≤ 4611686018427387904) : FnP Tryz.prog 13 [ei a, ei k] (fun r => r = ei (a % k)) := by
  have hb := tmod_bd0 a hk
  have hf := tmod_up0 a hk
  refine fn_enter Tryz.func13 (by rfl) (by rfl) ?_
  intro S0 w0
  show Sim _ _ [(0, ei a), (1, ei k)] _ _
  refine zC ?_
  apply cr
  refine s_ p_as ?_
  refine zC ?_
  apply cr
  refine s_ p_mv ?_
  refine s_ p_mv ?_
  refine s_ p_re ?_
  refine s_ p_as ?_
  refine zC ?_
  apply cr
  refine s_ p_mv ?_
  refine s_ p_lt ?_
  refine zC ?_
  refine ci ?_ ?_
  · intro hn
    rw [if_pos hn] at hf
    refine zC ?_
    apply cr
    refine s_ p_mv ?_
    refine s_ p_mv ?_
    refine s_ p_ad ?_
    refine s_ p_as ?_
    refine zC ?_
    apply cr
    refine s_ p_mv ?_
    refine s_ p_as ?_
    refine zC ?_
    refine zE ?_
    rw [hf]
    exact Le.refl _
  · intro hn
    rw [if_neg hn] at hf
    refine zC ?_
    apply cr
    refine s_ p_mv ?_
    refine s_ p_as ?_
    refine zC ?_
    refine zE ?_
    rw [hf]
    exact Le.refl _
set_option maxHeartbeats 2000000 in
theorem known20_fn : FnP Tryz.prog 9 [] (fun r => r = .v (.bool true)) := by
  have hN := gnew_fn PS 7 (by omega) (by omega)
  refine fn_enter Tryz.func9 (by rfl) (by rfl) ?_
  intro S0 w0
  show Sim _ _ [] _ _
  refine zC ?_
  apply cr
  refine s_ p_as ?_
  refine zC ?_
  apply cr
  refine e_cH (Hs := []) (Hr := []) hN (.refl _) (fun r H ⟨bg, g, hr, hG, hB, hL, hpr, hcf⟩ => ?_)
  subst hr
  rw [List.append_nil]
  refine s_ p_mv ?_
  refine s_ p_ex ?_
  refine s_ p_ex ?_
  refine s_ p_as ?_
  refine s_ p_as ?_
  refine zC ?_
  apply cr
  refine s_ p_mv ?_
  refine s_ p_ne ?_
  refine s_ p_mv ?_
  refine gF (fun hg => p_mv) ?_
  refine gF (p := ¬ (0 : Int) = 0) (fun hg => p_eP (hx := u_ hg)) ?_
  refine s_ p_or ?_
  refine zC ?_
  refine ci ?_ ?_
  · rintro (h | h)
    · exact absurd rfl h
    · exact h.elim
  intro _
  have hC := gcalm_fn pk_short bg g H 30 30 (by omega) hB (by omega) hG
  obtain ⟨l1, hB1, _⟩ := hB.calm pk_short.toPO 30 (by omega)
  obtain ⟨hL1, hpr1⟩ := hL.calm pk_short hB 30 (by omega)
  obtain ⟨g1, hg1⟩ : ∃ g1, g1 = calmG g 30 := ⟨_, rfl⟩
  rw [← hg1] at hC hB1 hL1 hpr1
  rw [hpr] at hpr1
  refine zC ?_
  apply cr
  refine s_ p_mv ?_
  refine e_cHA hC (fun r H' ⟨hr1, hG1⟩ => ?_)
  subst hr1
  have h0 : isI 0 := ⟨by omega, by omega⟩
  have h5 : ¬ isI 5 := fun h => absurd h.2 (by omega)
  have hK5 := gkeep_fn bg g1 H' 5 h5 hG1
  obtain ⟨a, bm, em, clk, W, wv, hA, hO, rfl⟩ := hG1
  have hK0 := gkeepY_fn bg g1 0 h0 (a := a) (bm := bm) (clk := clk) hA hO
  have hlen := (hB1.nb 0 (by omega)).len
  have hfv := hB1.five
  have hNo := gnode_fn (bg := bg) (g := g1) (a := a) (bm := bm) (es := em) (clk := clk) (W := W) (wv := wv) (i := 0) (by omega) (by omega)
  have hrole : (g1.k 0).N.role = 2 := by
    rw [← prG_n g1 0 (by rw [hB1.ks]; omega), hpr1]
    exact known30
  
  refine zC ?_
  apply cr
  refine s_ p_mv ?_
  refine e_cHA hK0 (fun r H' ⟨hr1, hr2⟩ => ?_)
  subst hr1 hr2
  refine s_ p_eP ?_
  refine s_ p_mv ?_
  refine gF (fun hg => p_mv) ?_
  refine gF_cH (p := False) (Hr := []) (fun h => h) hK5 (by rw [List.append_nil]) (fun r H' ⟨hr1, hr2⟩ => ?_) (ha' := evl_cons (u_ (fun h => h)) (evl_cons ev_int evl_nil))
  subst hr1 hr2
  rw [List.append_nil]
  refine gF (p := False) (fun hg => p_nP0) ?_
  refine s_ p_or ?_
  refine zC ?_
  refine ci ?_ ?_
  · rintro (h | h)
    · exact h.elim
    · exact h.elim
  intro _
  refine zC ?_
  apply cr
  refine s_ p_mv ?_
  refine e_cHA hK0 (fun r H' ⟨hr1, hr2⟩ => ?_)
  subst hr1 hr2
  refine e_cHA hNo (fun r H' ⟨hr1, hr2⟩ => ?_)
  subst hr1 hr2
  refine s_ p_fd ?_
  refine s_ p_eq ?_
  refine s_ p_as ?_
  refine zC ?_
  refine zE ?_
  exact Le.of_eq (by show T.v (.bool (decide ((g1.k 0).N.role = 2))) = _; rw [decide_eq_true hrole])
end Go.Proofs.YtjbokbikkcfjjaaGreat
end
section
set_option maxRecDepth 16000
namespace Go.Proofs.YtjbokbikkcfjjaaGreat
open Go.Cap
set_option linter.unusedSimpArgs false
set_option linter.unusedVariables false
attribute [local irreducible] POp SimFrom DrawFrom EOp Sim FnH T.gp
section
variable {P : Nat → En → Prop} {g : Gp} {τ l u : Nat}
theorem way_mem {g : Gp} {k : Int} (h : hasG g k) : g.way.getD k.toNat default ∈ g.way := by
  have hk := (at_way h).1
  rw [List.getD_eq_getElem?_getD, List.getElem?_eq_getElem hk]; exact List.getElem_mem _
theorem GB.drop (h : GB P g τ l u) (k : Int) : GB P (dropG g k) τ l u ∧ (dropG g k).way.length = g.way.length - (if hasG g k then 1 else 0) := by
  unfold dropG
  split
  · rename_i hk
    obtain ⟨h1, _⟩ := at_way hk
    have hl : (outG g k).way.length = g.way.length - 1 := by show (g.way.eraseIdx k.toNat).length = _; rw [List.length_eraseIdx, if_pos h1]
    exact ⟨h.out (fun x hx => h.way x (List.mem_of_mem_eraseIdx hx)) (by show (outG g k).way.length ≤ _; have := h.many; omega), hl⟩
  · exact ⟨h, rfl⟩
theorem GB.twice (h : GB P g τ l u) (k : Int) : GB P (twiceG g k) τ l (u + 1) ∧ (twiceG g k).way.length = g.way.length + (if hasG g k ∧ g.way.length < 300 then 1 else 0) := by
  unfold twiceG
  split
  · rename_i hk
    refine ⟨(h.le (u' := u + 1) (by omega)).out (fun x hx => ?_) (by have := h.many; simp only [List.length_append, List.length_singleton]; omega), by simp⟩
    rcases List.mem_append.1 hx with hx | hx
    · exact h.way x hx
    · rw [List.mem_singleton.1 hx]; exact h.way _ (way_mem hk.1)
  · exact ⟨h.le (by omega), rfl⟩
theorem take_way (g : Gp) (m : Ms) : g.way.length ≤ (takeG g m).way.length := by
  unfold takeG
  split
  · unfold didG
    simp only [List.length_append]; omega
  · exact Nat.le_refl _
theorem GB.deliver (hP : PO P) (h : GB P g τ l u) (ht : τ ≤ 100000) (k : Int) : ∃ l', GB P (deliverG g k) τ l' u ∧ l ≤ l' ∧ (deliverG g k).way.length + 5 * l ≤ g.way.length + 5 * l' ∧ g.way.length ≤ (deliverG g k).way.length + 1 := by
  unfold deliverG
  split
  · rename_i hk
    obtain ⟨h1, _⟩ := at_way hk
    have hl : (outG g k).way.length = g.way.length - 1 := by show (g.way.eraseIdx k.toNat).length = _; rw [List.length_eraseIdx, if_pos h1]
    have hb : GB P (outG g k) τ l u := h.out (fun x hx => h.way x (List.mem_of_mem_eraseIdx hx)) (by show (outG g k).way.length ≤ _; have := h.many; omega)
    obtain ⟨l', h2, h3, h4⟩ := hb.take hP ht (h.way _ (way_mem hk)) (by have := h.many; omega)
    have := take_way (outG g k) (g.way.getD k.toNat default)
    exact ⟨l', h2, h3, by omega, by omega⟩
  · exact ⟨l, h, Nat.le_refl _, by omega, by omega⟩
end
structure NetOk (bg : Nat) (i : Nat) (g : Gp) (H : Heap) : Prop where
  is : IsG bg g H
  gb : ∃ τ l, GB PS g τ l (60 + i) ∧ g.way.length ≤ 20 + i + 5 * l
theorem NetOk.few {bg i : Nat} {g : Gp} {H : Heap} (h : NetOk bg i g H) (hi : i ≤ 30) : g.way.length < 300 := by
  obtain ⟨τ, l, h1, h2⟩ := h.gb
  have := h1.five
  omega
set_option maxHeartbeats 8000000 in
theorem gnet_fn (ks ats : List Int) (h1 : ks.length ≤ 9223372036854775807) (h2 : ats.length ≤ 9223372036854775807) : FnP Tryz.prog 3 [.sl false (ks.map ei), .sl false (ats.map ei)] (fun r => r = .v (.bool true)) := by
  have hK := known20_fn
  have hN := gnew_fn PS 7 (by omega) (by omega)
  refine fn_enter Tryz.func3 (by rfl) (by rfl) ?_
  intro S0 w0
  show Sim _ _ [(0, T.sl false (ks.map ei)), (1, T.sl false (ats.map ei))] _ _
  refine zC ?_
  apply cr
  refine s_ p_as ?_
  refine zC ?_
  apply cr
  refine s_ (p_ca (hK)) ?_
  refine s_ p_noB ?_
  refine zC ?_
  refine ci (p := False) (fun h => h.elim) (fun _ => ?_)
  refine zC ?_
  apply cr
  refine e_cH (Hs := []) (Hr := []) hN (.refl _) (fun r H ⟨bg, g, hr, hG, hB, hL, hpr, hcf⟩ => ?_)
  subst hr
  rw [List.append_nil]
  have hC := gcalm_fn pk_short bg g H 12 12 (by omega) hB (by omega) hG
  obtain ⟨l1, hB1, _⟩ := hB.calm pk_short.toPO 12 (by omega)
  obtain ⟨hL1, hpr1⟩ := hL.calm pk_short hB 12 (by omega)
  obtain ⟨g1, hg1⟩ : ∃ g1, g1 = calmG g 12 := ⟨_, rfl⟩
  rw [← hg1] at hC hB1 hL1 hpr1
  rw [hpr] at hpr1
  have hway : g1.way.length ≤ 20 := by
    have : g1.way = (prG g1).way := rfl
    rw [this, hpr1]; exact known12
  clear hL hpr hL1 hpr1 hg1
  refine s_ p_mv ?_
  refine s_ p_ex ?_
  refine s_ p_ex ?_
  refine s_ p_as ?_
  refine s_ p_as ?_
  refine zC ?_
  apply cr
  refine s_ p_mv ?_
  refine e_cHA hC (fun r H' ⟨hr1, hG1⟩ => ?_)
  subst hr1
  
  refine zC ?_
  apply cr
  refine s_ p_as ?_
  refine zC ?_
  apply sim_loopL (σ := Nat × Gp × Heap) (ok := fun s => s.1 ≤ 30 ∧ s.1 ≤ ks.length ∧ s.1 ≤ ats.length ∧ NetOk bg s.1 s.2.1 s.2.2) (env := fun s => [(7, ei s.1), (5, pW bg), (0, T.sl false (ks.map ei)), (1, T.sl false (ats.map ei))]) (heap := fun s => s.2.2) (μ := fun s => 30 - s.1) (s0 := (0, g1, H'))
  · exact ⟨Nat.zero_le _, Nat.zero_le _, Nat.zero_le _, hG1, _, l1, hB1, by simp only; omega⟩
  · exact eL
  · exact kR
  clear hG1 hC hB1
  rintro ⟨i, g2, H2⟩ ⟨hi, hik, hia, hok⟩
  simp only at hi hik hia hok
  show Sim _ _ [(7, ei i), (5, pW bg), (0, T.sl false (ks.map ei)), (1, T.sl false (ats.map ei))] H2 _
  refine zC ?_
  apply cr
  refine s_ p_mv ?_
  refine s_ p_mv ?_
  (first | refine s_ p_ln ?_ | refine s_ p_lr ?_)
  refine s_ p_lt ?_
  refine s_ p_mv ?_
  refine gT (fun hg => p_mv) ?_
  refine gT (fun hg => p_mv) ?_
  (first | refine gT (fun hg => p_ln (hx := u_ hg)) ?_ | refine gT (fun hg => p_lr (hx := u_ hg)) ?_)
  refine gT (fun hg => p_lt (hx := u_ hg) (hy := u_ hg)) ?_
  refine s_ p_an ?_
  refine s_ p_mv ?_
  refine gT (fun hg => p_mv) ?_
  refine gT (fun hg => p_lt (hx := u_ hg)) ?_
  refine s_ p_an ?_
  refine zC ?_
  refine ci ?_ ?_
  · rintro ⟨⟨hlt1, hlt2⟩, hlt3⟩
    rw [List.length_map] at hlt1 hlt2
    have hix : i < ats.length := by omega
    have hix2 : i < ks.length := by omega
    apply ck
    apply cq
    refine sim_cutP (σ := Gp × Heap) (ok := fun s => NetOk bg (i + 1) s.1 s.2) (env := fun _ => [(7, ei i), (5, pW bg), (0, T.sl false (ks.map ei)), (1, T.sl false (ats.map ei))]) (heap := fun s => s.2) ?_ (fun s hs => ?_)
    · have hi30 : i < 30 := by omega
      obtain ⟨hG2, τ2, l2, hB2, hw2⟩ := hok
      have hfew : g2.way.length < 300 := NetOk.few ⟨hG2, τ2, l2, hB2, hw2⟩ hi
      have ht2 := hB2.tau
      have hUn := gunder_fn bg g2 H2 hG2
      refine zC ?_
      apply cr
      refine s_ p_mv ?_
      refine e_cHA hUn (fun r H3 ⟨hr1, hr2⟩ => ?_)
      subst hr1 hr2
      obtain ⟨n, hn⟩ : ∃ n, n = g2.way.length := ⟨_, rfl⟩
      rw [← hn]
      have hw1 := within20_fn ats[i] ((n : Int) + 3) (by omega) (by omega)
      have hm0 := Int.emod_nonneg ats[i] (show ((n : Int) + 3) ≠ 0 by omega)
      have hm1 := Int.emod_lt_of_pos ats[i] (show 0 < ((n : Int) + 3) by omega)
      refine s_ p_as ?_
      refine zC ?_
      apply cr
      refine s_ p_mv ?_
      refine s_ p_mv ?_
      (first | refine s_ (p_ix hix) ?_ | refine s_ (p_ix hix2) ?_ | refine s_ p_ia ?_ | refine s_ p_ir ?_)
      (first | refine s_ p_ld ?_ | refine s_ p_lo ?_)
      refine s_ p_mv ?_
      refine s_ p_ad ?_
      refine s_ (p_ca (hw1)) ?_
      refine s_ p_su ?_
      refine s_ p_as ?_
      refine zC ?_
      obtain ⟨k, hk⟩ : ∃ k, k = ats[i] % ((n : Int) + 3) - 1 := ⟨_, rfl⟩
      rw [← hk]
      have hk0 : -1 ≤ k := by omega
      have hk1 : k ≤ n + 1 := by omega
      have hw3 := within20_fn ks[i] 3 (by omega) (by omega)
      have hq0 := Int.emod_nonneg ks[i] (show (3 : Int) ≠ 0 by omega)
      have hq1 := Int.emod_lt_of_pos ks[i] (show 0 < (3 : Int) by omega)
      obtain ⟨q, hq⟩ : ∃ q, q = ks[i] % 3 := ⟨_, rfl⟩
      rw [← hq] at hw3 hq0 hq1
      have hhas : hasG g2 k ↔ (0 ≤ k ∧ k < (n : Int)) := by rw [hn]; exact Iff.rfl
      obtain ⟨one, hone⟩ : ∃ one : Int, one = if 0 ≤ k ∧ k < (n : Int) then 1 else 0 := ⟨_, rfl⟩
      have hone2 : (0 ≤ one ∧ one ≤ 1) := by rw [hone]; split <;> omega
      refine zC ?_
      apply cr
      refine s_ p_mv ?_
      refine s_ p_ge ?_
      refine s_ p_mv ?_
      refine gT (fun hg => p_mv) ?_
      refine gT (fun hg => p_mv) ?_
      refine gT (fun hg => p_lt (hx := u_ hg) (hy := u_ hg)) ?_
      refine s_ p_an ?_
      refine s_ p_as ?_
      refine zC ?_
      apply cr
      refine s_ p_as ?_
      refine zC ?_
      apply cr
      refine s_ p_mv ?_
      refine zC ?_
      refine sim_cut [(11, ei one), (10, .v (.bool (decide (0 ≤ k ∧ k < (n : Int))))), (9, ei k), (8, ei n), (7, ei i), (5, pW bg), (0, T.sl false (ks.map ei)), (1, T.sl false (ats.map ei))] H3 ?_ ?_
      · refine ci ?_ ?_
        · intro h
          rw [if_pos h] at hone
          subst hone
          refine zC ?_
          apply cr
          refine s_ p_as ?_
          refine zC ?_
          exact ⟨eL, kR⟩
        · intro h
          rw [if_neg h] at hone
          subst hone
          refine zC ?_
          exact ⟨eL, kR⟩
      refine zC ?_
      apply cr
      refine s_ p_mv ?_
      refine s_ p_mv ?_
      (first | refine s_ (p_ix hix) ?_ | refine s_ (p_ix hix2) ?_ | refine s_ p_ia ?_)
      refine s_ p_ld ?_
      refine s_ (p_ca (hw3)) ?_
      refine zC ?_
      refine zC ?_
      apply cr
      refine s_ p_eq ?_
      refine s_ p_as ?_
      refine zC ?_
      refine ci ?_ ?_
      · intro hq0'
        have hD := gdrop_fn bg g2 H3 k hB2 (by omega) hG2
        obtain ⟨hB3, hw4⟩ := hB2.drop k
        refine zC ?_
        apply cr
        refine s_ p_mv ?_
        refine s_ p_mv ?_
        refine e_cHA hD (fun r H4 ⟨hr1, hG4⟩ => ?_)
        subst hr1
        have hU4 := gunder_fn bg (dropG g2 k) H4 hG4
        have hno : ¬ ¬ (hasG g2 k ↔ (0 ≤ k ∧ k < (n : Int))) := fun h => h hhas
        have hn4 : ((dropG g2 k).way.length : Int) = n - one := by
          rw [hw4, hone, ← hn]
          by_cases h : 0 ≤ k ∧ k < (n : Int)
          · rw [if_pos h, if_pos (hhas.2 h)]; omega
          · rw [if_neg h, if_neg (fun h' => h (hhas.1 h'))]; omega
        refine s_ p_mv ?_
        refine s_ p_neB ?_
        refine s_ p_mv ?_
        refine gF (fun hg => p_mv) ?_
        refine gF_cH (p := ¬ (hasG g2 k ↔ (0 ≤ k ∧ k < (n : Int)))) (Hr := []) hno hU4 (by rw [List.append_nil]) (fun r H5 ⟨hr1, hr2⟩ => ?_) (ha' := evl_cons (u_ hno) evl_nil)
        subst hr1 hr2
        rw [List.append_nil]
        refine gF (fun hg => p_mv) ?_
        refine gF (fun hg => p_mv) ?_
        refine gF (fun hg => p_su (hx := u_ hg) (hy := u_ hg)) ?_
        refine gF (p := ¬ (hasG g2 k ↔ (0 ≤ k ∧ k < (n : Int)))) (fun hg => p_ne (hy := u_ hg)) ?_
        refine s_ p_or ?_
        refine zC ?_
        refine ci ?_ ?_
        · rintro (h | h)
          · exact absurd h hno
          · exact absurd hn4 h
        · intro _
          refine zC ?_
          exact ⟨(dropG g2 k, H5), _, ⟨hG4, τ2, l2, hB3.le (by omega), by show (dropG g2 k).way.length ≤ _; rw [hw4]; split <;> omega⟩, eL, .refl _, kR⟩
      intro hq0'
      refine zC ?_
      apply cr
      refine s_ p_eq ?_
      refine s_ p_as ?_
      refine zC ?_
      refine ci ?_ ?_
      · intro hq1'
        have hD := gtwice_fn bg g2 H3 k hB2 (by omega) hG2
        obtain ⟨hB3, hw4⟩ := hB2.twice k
        refine zC ?_
        apply cr
        refine s_ p_mv ?_
        refine s_ p_mv ?_
        refine e_cHA hD (fun r H4 ⟨hr1, hG4⟩ => ?_)
        subst hr1
        have hU4 := gunder_fn bg (twiceG g2 k) H4 hG4
        have hno : ¬ ¬ (hasG g2 k ∧ g2.way.length < 300 ↔ (0 ≤ k ∧ k < (n : Int))) := fun h => h ⟨fun h1 => hhas.1 h1.1, fun h1 => ⟨hhas.2 h1, hfew⟩⟩
        have hn4 : ((twiceG g2 k).way.length : Int) = n + one := by
          rw [hw4, hone, ← hn]
          by_cases h : 0 ≤ k ∧ k < (n : Int)
          · rw [if_pos h, if_pos ⟨hhas.2 h, by omega⟩]; omega
          · rw [if_neg h, if_neg (fun h' => h (hhas.1 h'.1))]; omega
        refine s_ p_mv ?_
        refine s_ p_neB ?_
        refine s_ p_mv ?_
        refine gF (fun hg => p_mv) ?_
        refine gF_cH (p := ¬ (hasG g2 k ∧ g2.way.length < 300 ↔ (0 ≤ k ∧ k < (n : Int)))) (Hr := []) hno hU4 (by rw [List.append_nil]) (fun r H5 ⟨hr1, hr2⟩ => ?_) (ha' := evl_cons (u_ hno) evl_nil)
        subst hr1 hr2
        rw [List.append_nil]
        refine gF (fun hg => p_mv) ?_
        refine gF (fun hg => p_mv) ?_
        refine gF (fun hg => p_ad (hx := u_ hg) (hy := u_ hg)) ?_
        refine gF (p := ¬ (hasG g2 k ∧ g2.way.length < 300 ↔ (0 ≤ k ∧ k < (n : Int)))) (fun hg => p_ne (hy := u_ hg)) ?_
        refine s_ p_or ?_
        refine zC ?_
        refine ci ?_ ?_
        · rintro (h | h)
          · exact absurd h hno
          · exact absurd hn4 h
        · intro _
          refine zC ?_
          exact ⟨(twiceG g2 k, H5), _, ⟨hG4, τ2, l2, by rw [show 60 + (i + 1) = 60 + i + 1 by omega]; exact hB3, by show (twiceG g2 k).way.length ≤ _; rw [hw4]; split <;> omega⟩, eL, .refl _, kR⟩
      intro hq1'
      refine zC ?_
      apply cr
      refine s_ p_eq ?_
      refine s_ p_as ?_
      refine zC ?_
      refine ci ?_ ?_
      · intro hq2'
        have hD := gdeliver_fn pk_short bg g2 H3 k hB2 (by omega) hG2
        obtain ⟨l3, hB3, hl3, hw4, hw5⟩ := hB2.deliver pk_short.toPO (by omega) k
        refine zC ?_
        apply cr
        refine s_ p_mv ?_
        refine s_ p_mv ?_
        refine e_cHA hD (fun r H4 ⟨hr1, hG4⟩ => ?_)
        subst hr1
        have hU4 := gunder_fn bg (deliverG g2 k) H4 hG4
        have hno : ¬ ¬ (hasG g2 k ↔ (0 ≤ k ∧ k < (n : Int))) := fun h => h hhas
        refine s_ p_mv ?_
        refine s_ p_neB ?_
        refine s_ p_mv ?_
        refine gF (fun hg => p_mv) ?_
        refine gF_cH (p := ¬ (hasG g2 k ↔ (0 ≤ k ∧ k < (n : Int)))) (Hr := []) hno hU4 (by rw [List.append_nil]) (fun r H5 ⟨hr1, hr2⟩ => ?_) (ha' := evl_cons (u_ hno) evl_nil)
        subst hr1 hr2
        rw [List.append_nil]
        refine gF (fun hg => p_mv) ?_
        refine gF (fun hg => p_su (hx := u_ hg)) ?_
        refine gF (p := ¬ (hasG g2 k ↔ (0 ≤ k ∧ k < (n : Int)))) (fun hg => p_lt (hy := u_ hg)) ?_
        refine s_ p_or ?_
        refine zC ?_
        refine ci ?_ ?_
        · rintro (h | h)
          · exact absurd h hno
          · exact absurd h (by omega)
        · intro _
          refine zC ?_
          exact ⟨(deliverG g2 k, H5), _, ⟨hG4, τ2, l3, hB3.le (by omega), by show (deliverG g2 k).way.length ≤ _; omega⟩, eL, .refl _, kR⟩
      · intro hq2'
        exact absurd hq2' (by have : q = 0 ∨ q = 1 ∨ q = 2 := by omega
                              rcases this with h | h | h
                              · exact absurd h hq0'
                              · exact absurd h hq1'
                              · exact fun h' => h' h)
    obtain ⟨g5, H5⟩ := s
    simp only at hs
    show Sim _ _ [(7, ei i), (5, pW bg), (0, T.sl false (ks.map ei)), (1, T.sl false (ats.map ei))] H5 _
    refine zC ?_
    apply cr
    refine s_ p_mv ?_
    refine s_ p_ad ?_
    refine s_ p_as ?_
    refine zC ?_
    refine ⟨(i + 1, g5, H5), ⟨by simp only; omega, by simp only; omega, by simp only; omega, hs⟩, (by simp only []; omega), ⟨?_, eL⟩, kR⟩
    apply le_get; ((repeat (apply gS; rfl)); exact gZ)
    exact Le.refl _
  · intro hge
    obtain ⟨hG2, τ2, l2, hB2, hw2⟩ := hok
    have hD := gdeliver_fn pk_short bg g2 H2 (-1) hB2 (by omega) hG2
    obtain ⟨l3, hB3, hl3, hw4, hw5⟩ := hB2.deliver pk_short.toPO (by have := hB2.tau; omega) (-1)
    have hn1 : ¬ hasG g2 (-1) := fun h => absurd h.1 (by omega)
    refine zC ?_
    apply cr
    refine s_ p_mv ?_
    refine e_cHA hD (fun r H4 ⟨hr1, hG4⟩ => ?_)
    subst hr1
    have hf3 := hB3.five
    have hn2 : ¬ hasG (deliverG g2 (-1)) 1099511627776 := fun h => absurd h.2 (by omega)
    have hD4 := gdrop_fn bg (deliverG g2 (-1)) H4 1099511627776 hB3 (by omega) hG4
    have hyes : ¬ hasG g2 (-1) := hn1
    refine s_ p_no ?_
    refine s_ p_mv ?_
    refine gT (fun hg => p_mv) ?_
    refine gT_cH (p := ¬ hasG g2 (-1)) (Hr := []) hyes hD4 (by rw [List.append_nil]) (fun r H5 ⟨hr1, hG5⟩ => ?_) (ha' := evl_cons (u_ hyes) (evl_cons ev_int evl_nil))
    subst hr1
    rw [List.append_nil]
    refine gT (p := ¬ hasG g2 (-1)) (fun hg => p_no (p := hasG (deliverG g2 (-1)) 1099511627776)) ?_
    refine s_ p_an ?_
    refine s_ p_as ?_
    refine zC ?_
    refine zE ?_
    exact Le.of_eq (by show T.v (.bool (decide (¬ hasG g2 (-1) ∧ ¬ hasG (deliverG g2 (-1)) 1099511627776))) = _; rw [decide_eq_true ⟨hn1, hn2⟩])
end Go.Proofs.YtjbokbikkcfjjaaGreat
end
section
namespace Go.Cap
open Go.ChangeShapes Go.WideShapes Go.ChangeAt Go.RowKit
theorem Step.below {S S' : Nat → Prop} {w w' : World} (h : Step [] S w S' w') : Below w.heap.size w w' := ⟨h.os, h.tape, h.output, h.size, fun k hk => h.keep k hk (by simp)⟩
theorem calls_true {P : Program} {f : FuncId} {args : List T} (h : FnP P f args (fun r => r = .v (.bool true))) {w : World} {vs : List Value} (hr : RelL (fun b => b < w.heap.size) w args vs) :
    Calls P f vs.toArray w fun e w' => e = .returned (.bool true) ∧ Below w.heap.size w w' := by
  refine (h (fun b => b < w.heap.size) w vs (fun b hb => hb) (Own.nil _ _) hr).mono ?_
  rintro e w' ⟨u, S', r, H', rfl, ⟨_, rfl⟩, hrel, _, hst, _⟩
  exact ⟨by rw [hrel.v_eq], hst.below⟩
section
variable {H : Type} {enc : TypeId × Value → H} {P : Program}
theorem trodAll_below (hl : laidOutB P = true) {W W' : World} (hb : Below W.heap.size W W') : ∀ (ts : List TypeId) (vs : List Value) (ds : List (DataW H)) (ps : List MemPlace),
    (∀ t ∈ ts, P.readableRec t = true ∧ t < P.types.size) → DataW.TrodAll enc P W 0 (fun _ => true) true ts vs ds ps → (∀ x ∈ ps, x.block < W.heap.size) →
    DataW.TrodAll enc P W' 0 (fun b => decide (b < W.heap.size)) true ts vs ds ps
  | [], _, _, _, _, h, _ => by
    obtain ⟨rfl, rfl, rfl⟩ := trodAll_nil h
    exact h
  | t :: ts, _, _, _, ht, h, hp => by
    obtain ⟨v, vs1, d, ds1, a, b, rfl, rfl, rfl, h1, h2⟩ := trodAll_cons h
    refine ⟨a, b, Below.trod hl (ht t List.mem_cons_self).1 (ht t List.mem_cons_self).2 h1 hb (fun x hx => hp x (List.mem_append_left _ hx)), ?_, rfl⟩
    exact trodAll_below hl hb ts vs1 ds1 b (fun y hy => ht y (List.mem_cons_of_mem _ hy)) h2 (fun x hx => hp x (List.mem_append_right _ hx))
theorem post_true {f : Func} {s : ChangeSpec} {W W' : World} {args : Array Value} {ds gs : List (DataW H)} {before : List MemPlace} {tb : TypeId} (hl : laidOutB P = true) (hvs : s.vars = [])
    (hW : DataW.Whole enc P f.params.toList s.vars false W args.toList ds gs before) (hb : Below W.heap.size W W') (hts : (f.params.toList.all fun t => P.readableRec t && Nat.blt t P.types.size) = true)
    (hres : (s.fn H (ds ++ gs)).results = [.lit (.bool true)]) (harg : (s.fn H (ds ++ gs)).args = ds) (hvar : (s.fn H (ds ++ gs)).vars = []) (hr : f.resultTypes = #[tb]) (htb : P.underlying tb = some .bool) :
    s.post enc P f false true false false W args (.bool true) W' := by
  have hts' : ∀ t ∈ f.params.toList, P.readableRec t = true ∧ t < P.types.size := fun t ht => by
    have := List.all_eq_true.1 hts t ht
    simp only [Bool.and_eq_true] at this
    exact ⟨this.1, by simpa using this.2⟩
  have hW' := hW
  obtain ⟨p, q, hA, hV, rfl, hfz, hnd⟩ := hW
  rw [hvs] at hV
  obtain ⟨rfl, rfl⟩ := trodVars_none hV
  refine ⟨ds, [], p ++ [], [], p, [], hW', ?_, ?_, ?_, hb.frame _, fun h => by cases h⟩
  · rw [hres, hr]
    exact trodAll_mk1 (shut_bool htb true)
  · rw [harg]
    exact trodAll_below hl hb _ _ _ _ hts' hA (fun x hx => hW'.lt x (by simpa using hx))
  · rw [hvs, hvar]; rfl
end
end Go.Cap
end
