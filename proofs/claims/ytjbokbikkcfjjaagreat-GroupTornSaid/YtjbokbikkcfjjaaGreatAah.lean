/-
  A range over a function: the loop; the function that is ranged over.
-/
import Derived.Test.YtjbokbikkcfjjaaGreatAag
set_option maxRecDepth 16000
set_option maxHeartbeats 8000000
set_option linter.all false
namespace Go.Cap
def Vc (r : Loop) (c : Code) (go : Bool) : Loop := if go = true then r else { r with state := .done, pending := some c }
def WK (P : Program) (l : Nat) (r : Loop) (c : Code) (S0 : Nat → Prop) (w0 : World) (ds : List T) (H : Qc) (Φ : Bool → Qc → Prop) : Prop :=
 ∀ (S : Nat → Prop) (w : World) (vs : List Value), Wf S w → ¬ S l → Own S w H → Qr S w ds vs → (∀ b, S0 b → S b ∧ w.heap[b]? = w0.heap[b]?) → w.heap[l]? = some (.loop r) →
  RoundIn (RF none) 0 P l r.fn ((r.params.zip vs.toArray).foldl (fun tmps (x : Tmp × Value) => tmps.setIfInBounds x.1 x.2) r.tmps) r.assign r.body w fun e w' =>
   ∃ (go : Bool) (S' : Nat → Prop) (H' : Qc), e = .returned (.bool go) ∧ Φ go H' ∧ Own S' w' H' ∧ QN (l :: keys H) S w S' w' ∧ ¬ S' l ∧ (∀ b ∈ keys H', b ∈ keys H ∨ w.heap.size ≤ b) ∧ w'.heap[l]? = some (.loop (Vc r c go))
def ItC {α : Type} (P : Program) (g : FuncId) (caps : List T) (enc : α → List T) (Sd Sp : List α → Prop) : Prop :=
 ∀ (c : Code) (l : Nat) (r : Loop) (I Ix : List α → Qc → Prop) (Hx : Qc) (S : Nat → Prop) (w : World) (vs : List Value), r.state = .ready → r.pending = none → (∀ x, (enc x).length = r.params.size) →
  Wf S w → ¬ S l → w.heap[l]? = some (.loop r) → Own S w Hx → Qr S w caps vs → I [] Hx →
  (∀ pre x H, I pre H → Sp (pre ++ [x]) → WK P l r c S w (enc x) H (fun go H' => if go = true then I (pre ++ [x]) H' else Ix (pre ++ [x]) H')) →
  Calls P g (#[.func (.yield l) #[] #[]] ++ vs.toArray) w fun e w' => ∃ u S' H', e = .returned u ∧ Own S' w' H' ∧ ¬ S' l ∧ QN (l :: keys Hx) S w S' w' ∧ (∀ b ∈ keys H', b ∈ keys Hx ∨ w.heap.size ≤ b) ∧
   ((∃ xs, Sd xs ∧ I xs H' ∧ w'.heap[l]? = some (.loop r)) ∨ (∃ pre, Sp pre ∧ Ix pre H' ∧ w'.heap[l]? = some (.loop (Vc r c false))))
def CD (c : Code) (e : Exit) : Prop := (c = .ret ∧ e = .ret) ∨ ∃ id, c = .exit id ∧ e = .exit id
def VT (t : Env) : List Tmp → List T → Env
 | p :: ps, d :: ds => VT ((p, d) :: t) ps ds
 | _, _ => t
def RZ {α : Type} (I Ix : List α → Qc → Prop) (e : Exit) (pre : List α) (x : α) (e' : Exit) (_ : Env) (H : Qc) : Prop :=
 ∃ H2, Qh H H2 ∧ ((e' = .normal ∧ I (pre ++ [x]) H2) ∨ (e' = e ∧ Ix (pre ++ [x]) H2))
section
variable {K : Ctx} {P : Program} {t : Env} {H : Qc} {S : Nat → Prop} {w : World}
theorem Own.obj (h : Own S w H) {l : Nat} {o : Obj} (ho : w.heap[l]? = some o) (hc : V6 o = false) : l ∉ keys H := fun hm => by
 obtain ⟨p, hp, rfl⟩ := List.mem_map.1 hm
 obtain ⟨o', h1, h2⟩ := (h.has p hp).isMem
 rw [ho] at h1; cases h1; rw [hc] at h2; cases h2
theorem Own.putObj (h : Own S w H) {l : Nat} {o : Obj} (hl : l ∉ keys H) (hS : ¬ S l) : Own S (w.putObj l o) H := by
 have hm : ∀ b, S b → S b ∧ (w.putObj l o).heap[b]? = w.heap[b]? := fun b hb => ⟨hb, World.putObj_heap_other (fun e => hS (e ▸ hb))⟩
 exact ⟨h.nodup, h.apart, fun p hp => (h.has p hp).mono (World.putObj_heap_other (fun e => hl (e ▸ List.mem_map.2 ⟨p, hp, rfl⟩))) hm⟩
theorem JA (h : Wf S w) (l : Nat) (o : Obj) : QN [l] S w S (w.putObj l o) :=
 ⟨rfl, rfl, rfl, by simp, fun b _ hn => World.putObj_heap_other (by simpa using hn), fun _ h => h, fun _ h => .inl h, fun b hb => by simpa using h b hb⟩
theorem Ld {a : Array Value} : ∀ (ps : List Tmp) (ds : List T) (vs : List Value) (t : Env) (a : Array Value), ds.length = ps.length → Qr S w ds vs → (∀ p ∈ ps, p < a.size) → (∀ k, Rel S w (t.get k) (a.getD k undef)) →
  ∀ k, Rel S w ((VT t ps ds).get k) (((ps.zip vs).foldl (fun tmps (x : Tmp × Value) => tmps.setIfInBounds x.1 x.2) a).getD k undef)
 | [], [], _, t, a, _, _, _, h => by simpa [VT] using h
 | [], _ :: _, _, _, _, hl, _, _, _ => by simp at hl
 | _ :: _, [], _, _, _, hl, _, _, _ => by simp at hl
 | p :: ps, d :: ds, _, t, a, hl, hr, hp, h => by
  cases hr with
  | cons _ v _ vs h1 h2 =>
   refine Ld (a := a) ps ds vs ((p, d) :: t) _ (by simpa using hl) h2 (fun q hq => by simpa using hp q (List.mem_cons_of_mem _ hq)) fun k => ?_
   have := (show ZC S w t { tmps := a, defers := [] } from h).put (dst := some p) (d := d) (v := v) (by simpa [Xo] using hp p List.mem_cons_self) h1
   exact this k
theorem Wm : ∀ (l : List (Tmp × Value)) (a : Array Value), (l.foldl (fun tmps (x : Tmp × Value) => tmps.setIfInBounds x.1 x.2) a).size = a.size
 | [], a => rfl
 | x :: l, a => by rw [List.foldl_cons, Wm l]; simp
theorem Ru {α : Type} {ps : Array Tmp} {assign body : Code} {c : Code} {e : Exit} (hce : CD c e) {I Ix : List α → Qc → Prop} {enc : α → List T} {n l : Nat} {tmps : Array Value} {fn : FuncId} {D : Nat} (hsz : tmps.size = n) {Sb : Nat → Prop} {wb : World} (henv : ∀ k, Rel Sb wb (t.get k) (tmps.getD k undef))
  (hps : ∀ x, (enc x).length = ps.size) (hpn : ∀ p ∈ ps.toList, p < n) (pre : List α) (x : α) (H1 : Qc)
  (hround : ∀ S1 w1, Sim ⟨P, n, S1, w1, keys H1, some l, Ju.none, w1.heap.size, []⟩ assign (VT t ps.toList (enc x)) H1 (fun e' t' H' => e' = .normal ∧ ∀ S2 w2 mk, Sim ⟨P, n, S2, w2, keys H', some l, Ju.none, mk, []⟩ body t' H' (RZ I Ix e pre x))) :
  WK P l { state := .ready, pending := none, fn, tmps, params := ps, assign, body, defers := D } c Sb wb (enc x) H1 (fun go H' => if go = true then I (pre ++ [x]) H' else Ix (pre ++ [x]) H') := by
 intro S w vs hw hnl hown hrel hcomp hrec
 have hvl := hrel.length
 refine roundIn_of_wpIn (F := RF none) trivial ?_
 have hl1 : l ∉ keys H1 := hown.obj hrec rfl
 have hlt := (Array.getElem?_eq_some_iff.1 hrec).1
 have ezip : (ps.zip vs.toArray).foldl (fun tmps (x : Tmp × Value) => tmps.setIfInBounds x.1 x.2) tmps = (ps.toList.zip vs).foldl (fun tmps (x : Tmp × Value) => tmps.setIfInBounds x.1 x.2) tmps := by
  rw [← Array.foldl_toList]; simp
 have henv1 := Ld (a := tmps) ps.toList (enc x) vs t tmps (by rw [hps]; simp) hrel (by simpa [hsz] using hpn) (fun k => (henv k).mono hcomp)
 have h1 := hround S w { tmps := (ps.toList.zip vs).foldl (fun tmps (x : Tmp × Value) => tmps.setIfInBounds x.1 x.2) tmps, defers := [] } w
  ⟨S, by rw [Wm]; exact hsz, ⟨Nat.le_refl _, Mks.zero, fun _ _ => trivial⟩, QN.refl _ hw, hown, fun b hb => .inl hb, henv1⟩
 simp only [ezip]
 refine wpIn_mono h1 ?_
 rintro e' a' w' ⟨t', H', ⟨rfl, hbody⟩, S', hr'⟩
 show ∃ w₂, (Instr.beginRound l).run P w' = .ok () w₂ ∧ body.wpIn ((RF none).inRound l) 0 P (roundPost P l _) a' w₂
 have hst1 : QN (keys H1) S w S' w' := hr'.step
 have hrec1 : w'.heap[l]? = some (.loop { state := .ready, pending := none, fn, tmps, params := ps, assign, body, defers := D }) := (hst1.keep l hlt hl1).trans hrec
 have hnl1 : ¬ S' l := fun h => by
  rcases hst1.new l h with h | h | h
  ·exact hnl h
  ·omega
  ·exact hl1 h
 have hl2 : l ∉ keys H' := hr'.own.obj hrec1 rfl
 refine ⟨_, run_beginRound hrec1 rfl, ?_⟩
 obtain ⟨w₂, hw2⟩ : ∃ w₂, w'.putObj l (.loop { state := .busy, pending := none, fn, tmps, params := ps, assign, body, defers := D }) = w₂ := ⟨_, rfl⟩
 show body.wpIn ((RF none).inRound l) 0 P (roundPost P l _) a' (w'.putObj l (.loop { state := .busy, pending := none, fn, tmps, params := ps, assign, body, defers := D }))
 rw [hw2]
 have hst2 : QN [l] S' w' S' w₂ := hw2 ▸ JA hr'.wf l _
 have hown2 : Own S' w₂ H' := hw2 ▸ hr'.own.putObj hl2 hnl1
 have hm2 : ∀ b, S' b → S' b ∧ w₂.heap[b]? = w'.heap[b]? := fun b hb => ⟨hb, by rw [← hw2]; exact World.putObj_heap_other (fun e => hnl1 (e ▸ hb))⟩
 have hrec2 : w₂.heap[l]? = some (.loop { state := .busy, pending := none, fn, tmps, params := ps, assign, body, defers := D }) := by rw [← hw2]; exact World.putObj_heap_same (Array.getElem?_eq_some_iff.1 hrec1).1
 have hlt2 := (Array.getElem?_eq_some_iff.1 hrec2).1
 have hbd := hbody S' w₂ w.heap.size a' w₂ ⟨S', hr'.size, ⟨Nat.le_trans hr'.defers.low hst2.size, hr'.defers.marks.step fun E e3 => by
   rw [← hw2, World.putObj_heap_other (fun h => by rw [h, hrec1] at e3; cases e3)]; exact e3, fun _ _ => trivial⟩, QN.refl _ (hst2.wf), hown2, fun b hb => .inl hb, hr'.env.mono hm2⟩
 refine wpIn_mono hbd ?_
 rintro e2 a2 w4 ⟨t4, H4, ⟨H5, hfr, hcase⟩, S4, hr4⟩
 have hst3 : QN (keys H') S' w₂ S4 w4 := hr4.step
 have hrec4 : w4.heap[l]? = some (.loop { state := .busy, pending := none, fn, tmps, params := ps, assign, body, defers := D }) := (hst3.keep l hlt2 hl2).trans hrec2
 have hnl4 : ¬ S4 l := fun h => by
  rcases hst3.new l h with h | h | h
  ·exact hnl1 h
  ·omega
  ·exact hl2 h
 have hown5 : Own S4 w4 H5 := hr4.own.le (hfr.le hr4.own.nodup)
 have hl5 : l ∉ keys H5 := hown5.obj hrec4 rfl
 have hlt4 := (Array.getElem?_eq_some_iff.1 hrec4).1
 have hkeys5 : ∀ b ∈ keys H5, b ∈ keys H1 ∨ w.heap.size ≤ b := fun b hb => by
  rcases hr4.mine b ((hfr.le hr4.own.nodup).sub b hb) with h | h
  ·exact hr'.mine b h
  ·exact .inr (Nat.le_trans (Nat.le_trans hst1.size hst2.size) h)
 have hsteps : ∀ o, QN (l :: keys H1) S w S4 (w4.putObj l o) := fun o => by
  have s1 : QN (l :: keys H1) S w S' w' := hst1.weaken fun b hb => .inl (List.mem_cons_of_mem _ hb)
  have s2 := s1.trans hst2 (fun b hb => by simp at hb; exact .inl (by simp [hb]))
  have s3 := s2.trans hst3 (fun b hb => by
   rcases hr'.mine b hb with h | h
   ·exact .inl (List.mem_cons_of_mem _ h)
   ·exact .inr h)
  exact s3.trans (JA hr4.wf l o) (fun b hb => by simp at hb; exact .inl (by simp [hb]))
 rcases hcase with ⟨rfl, hI⟩ | ⟨rfl, hI⟩
 ·refine ⟨_, _, run_endRound none hrec4, true, S4, H5, rfl, hI, hown5.putObj hl5 hnl4, hsteps _, hnl4, hkeys5, World.putObj_heap_same hlt4⟩
 ·rcases hce with ⟨rfl, rfl⟩ | ⟨id, rfl, rfl⟩
  ·exact ⟨_, _, run_endRound (some .ret) hrec4, false, S4, H5, rfl, hI, hown5.putObj hl5 hnl4, hsteps _, hnl4, hkeys5, World.putObj_heap_same hlt4⟩
  ·exact ⟨_, _, run_endRound (some (.exit id)) hrec4, false, S4, H5, rfl, hI, hown5.putObj hl5 hnl4, hsteps _, hnl4, hkeys5, World.putObj_heap_same hlt4⟩
theorem W7 {α : Type} {gop : Operand} {ps : Array Tmp} {assign body : Code} {g : FuncId} {caps : List T} {enc : α → List T} {Sd Sp : List α → Prop} {Ψ : Exit → Env → Qc → Prop} (hit : ItC K.P g caps enc Sd Sp) (hg : t.ev gop = .clo g [] caps) (hcall : QE K.P g = true) (hrd : K.rd = none)
  (I Ix : List α → Qc → Prop) (c : Code) (e : Exit) (hce : CD c e) (hps : ∀ x, (enc x).length = ps.size) (hpn : (ps.toList.all fun p => Nat.blt p K.n) = true) (h0 : I [] H)
  (hround : ∀ pre x H1, I pre H1 → Sp (pre ++ [x]) → ∀ l S1 w1, Sim ⟨K.P, K.n, S1, w1, keys H1, some l, Ju.none, w1.heap.size, []⟩ assign (VT t ps.toList (enc x)) H1 (fun e' t' H' => e' = .normal ∧ ∀ S2 w2 mk, Sim ⟨K.P, K.n, S2, w2, keys H', some l, Ju.none, mk, []⟩ body t' H' (RZ I Ix e pre x)))
  (hdone : ∀ xs H', Sd xs → I xs H' → Ψ .normal t H') (hstop : ∀ pre H', Sp pre → Ix pre H' → Ψ e t H') : Sim K (.rangeFunc gop ps assign body) t H Ψ := by
 intro a w ⟨S, hr⟩
 have hgr := hr.env.ev gop; rw [hg] at hgr
 obtain ⟨vs, hgv, hcaps⟩ : ∃ vs : List Value, a.eval gop = .func (.func g) #[] vs.toArray ∧ Qr S w caps vs := by
  generalize a.eval gop = u at hgr
  cases hgr with
  | clo _ _ _ us vs r1 r2 => cases r1; exact ⟨vs, rfl, r2⟩
 refine wpIn_rangeFunc ?_
 intro fn _
 obtain ⟨rec, hrec⟩ : ∃ rec : Loop, rec = { state := .ready, pending := none, fn, tmps := a.tmps, params := ps, assign, body, defers := w.heap.size } := ⟨_, rfl⟩
 obtain ⟨W1, hW1⟩ : ∃ W1, (w.alloc (.deferred (some []))).alloc (.loop rec) = W1 := ⟨_, rfl⟩
 have hsz1 : W1.heap.size = w.heap.size + 1 + 1 := by rw [← hW1]; simp
 have hL1 : W1.heap[w.heap.size + 1]? = some (.loop rec) := by
  rw [← hW1]; have := World.alloc_heap_new (w.alloc (.deferred (some []))) (.loop rec); rwa [World.size_alloc] at this
 have hD1 : W1.heap[w.heap.size]? = some (.deferred (some [])) := by
  rw [← hW1, X0 _ _ (by simp)]; exact YZ w _
 have hst1 : QN [] S w S W1 := hW1 ▸ (ZZ hr.wf _ []).trans (ZZ (ZZ hr.wf (.deferred (some [])) []).wf _ []) (by simp)
 have hm1 := hst1.mono hr.wf (by simp)
 have hown1 := hr.own.step hst1 hr.wf (by simp) (by simp)
 have hnl : ¬ S (w.heap.size + 1) := fun h => by have := hr.wf _ h; omega
 refine ⟨w.heap.size + 1, [{ target := .collected w.heap.size, args := #[] }], W1, { target := .fn (.func g) vs.toArray, args := #[.func (.yield (w.heap.size + 1)) #[] #[]] }, W1, g,
  #[.func (.yield (w.heap.size + 1)) #[] #[]] ++ vs.toArray, W1, ?_, ?_, fun _ _ => trivial, ?_, fun h => Bool.noConfusion (show false = true from h), DS _ ?_⟩
 ·rw [← hW1, hrec, show (RF K.rd).round = none from hrd]; exact run_enterLoop_outer _ _ _ _ _
 ·simp only [resolve, hgv]
  simp [go_sem]
 ·simp only [invoke]
  exact Zo hcall _ _
 refine (hit c (w.heap.size + 1) rec I Ix H S W1 vs (by rw [hrec]) (by rw [hrec]) (fun x => by rw [hps x, hrec]) hst1.wf hnl hL1 hown1 (hcaps.mono hm1) h0 fun pre x H1 hI hsp => ?_).mono ?_
 ·rw [hrec]
  exact Ru hce hr.size (fun k => (hr.env k).mono hm1) hps (fun p hp => by simpa using List.all_eq_true.1 hpn p hp) pre x H1 (hround pre x H1 hI hsp _)
 ·rintro e' w3 ⟨u, S3, H3, rfl, hown3, hnl3, hst3, hkeys3, hcase⟩
  have hlH : w.heap.size + 1 ∉ keys H := fun hm => by have := hr.own.lt _ hm; omega
  have hDH : w.heap.size ∉ keys H := fun hm => by have := hr.own.lt _ hm; omega
  have hD3 : w3.heap[w.heap.size]? = some (.deferred (some [])) := (hst3.keep _ (by omega) (by simp; exact hDH)).trans hD1
  have fin : ∀ r', w3.heap[w.heap.size + 1]? = some (.loop r') → R K t H3 { a with defers := [{ target := .collected w.heap.size, args := #[] }] ++ a.defers } (w3.putObj (w.heap.size + 1) (.loop { r' with state := .exhausted })) := by
   intro r' hr3
   have hl3 : w.heap.size + 1 ∉ keys H3 := hown3.obj hr3 rfl
   have hst4 := JA hst3.wf (w.heap.size + 1) (.loop { r' with state := .exhausted })
   have hS1 : ∀ b ∈ (w.heap.size + 1) :: keys H, ¬ S b := fun b hb => by
    rcases List.mem_cons.1 hb with rfl | hb
    ·exact hnl
    ·exact hr.own.apart b hb
   have hm3 := hst3.mono hst1.wf hS1
   have hm4 : ∀ b, S3 b → S3 b ∧ (w3.putObj (w.heap.size + 1) (.loop { r' with state := .exhausted })).heap[b]? = w3.heap[b]? := fun b hb => ⟨hb, World.putObj_heap_other (fun e => hnl3 (e ▸ hb))⟩
   have hobj : Vs w (w3.putObj (w.heap.size + 1) (.loop { r' with state := .exhausted })) := fun b o hb ho => by
    have hlt := (Array.getElem?_eq_some_iff.1 hb).1
    have hbH : b ∉ keys H := hr.own.obj hb ho
    rw [World.putObj_heap_other (by omega), hst3.keep b (by omega) (by simp; exact ⟨by omega, hbH⟩), hst1.keep b hlt (by simp)]
    exact hb
   have hsz4 : w.heap.size ≤ (w3.putObj (w.heap.size + 1) (.loop { r' with state := .exhausted })).heap.size := by have := hst3.size; simp; omega
   have hext := hr.defers.step (fun b hb => ⟨(hm4 b (hm3 b (hm1 b hb).1).1).1, ((hm4 b (hm3 b (hm1 b hb).1).1).2.trans (hm3 b (hm1 b hb).1).2).trans (hm1 b hb).2⟩) hobj hsz4
   refine ⟨S3, hr.size, ⟨hext.low, ?_, hext.flags⟩, ((hr.step.trans hst1 (by simp)).trans hst3 (fun b hb => ?_)).trans hst4 (fun b hb => ?_), hown3.putObj hl3 hnl3, fun b hb => ?_, ((hr.env.mono hm1).mono hm3).mono hm4⟩
   ·exact hr.defers.marks.cons (fun E h3 => hobj E _ h3 rfl) hr.defers.low ((World.putObj_heap_other (by omega)).trans hD3)
   ·rcases List.mem_cons.1 hb with rfl | hb
    ·right; have := hr.step.size; omega
    ·exact hr.mine b hb
   ·simp at hb; subst hb; right; have := hr.step.size; omega
   ·rcases hkeys3 b hb with h | h
    ·exact hr.mine b h
    ·right; have := hr.step.size; omega
  rcases hcase with ⟨xs, hSd, hI, hr3⟩ | ⟨pre, hSp, hI, hr3⟩
  ·exact ⟨none, _, by rw [run_endLoop hr3 (by rw [hrec]; simp), hrec], t, H3, hdone xs H3 hSd hI, fin _ hr3⟩
  ·refine ⟨some c, _, run_endLoop hr3 (by simp [Vc]), ?_⟩
   have := fin _ hr3
   rcases hce with ⟨rfl, rfl⟩ | ⟨id, rfl, rfl⟩
   ·exact wpIn_ret ⟨t, H3, hstop pre H3 hSp hI, this⟩
   ·exact wpIn_exit ⟨t, H3, hstop pre H3 hSp hI, this⟩
def Mp (l : Nat) (r : Loop) (c : Code) : Ju where
 X := fun j w => match j with
  | 0 => w.heap[l]? = some (.loop r)
  | 1 => w.heap[l]? = some (.loop (Vc r c false))
  | _ => True
 hX := fun j w w' h ho => by
  match j, h with
  | 0, h => exact ho _ _ h rfl
  | 1, h => exact ho _ _ h rfl
  | _ + 2, _ => trivial
def IE {α : Type} (n : Nat) (Sd Sp : List α → Prop) (I Ix : List α → Qc → Prop) (e : Exit) (t : Env) (H : Qc) : Prop :=
 match e with
 | .normal | .ret => ∃ H', Qh H H' ∧ ((t.get n = .v undef ∧ ∃ xs, Sd xs ∧ I xs H') ∨ (t.get (n + 1) = .v undef ∧ ∃ pre, Sp pre ∧ Ix pre H'))
 | _ => False
structure ItK (K : Ctx) (l : Nat) (r : Loop) (c : Code) : Prop where
 fl : K.fl = Mp l r c
 nS : ¬ K.S0 l
 inF : l ∈ K.F0
 lt : l < K.w0.heap.size
 wf : Wf K.S0 K.w0
 disj : ∀ b ∈ K.F0, ¬ K.S0 b
theorem Do {α : Type} {g : FuncId} {fn : Func} {code : Code} {caps : List T} {enc : α → List T} {Sd Sp : List α → Prop} (hf : P.funcs[g]? = some fn) (hb : fn.body = some code) (hn : Nat.ble (caps.length + 1) fn.ntmps = true) (hres : fn.results = #[])
  (h : ∀ (c : Code) (l : Nat) (r : Loop) (I Ix : List α → Qc → Prop) (Hx : Qc) (S : Nat → Prop) (w : World), (∀ x, (enc x).length = r.params.size) → r.state = .ready → r.pending = none → ItK ⟨P, fn.ntmps, S, w, l :: keys Hx, none, Mp l r c, w.heap.size, []⟩ l r c → I [] Hx →
   (∀ pre x H, I pre H → Sp (pre ++ [x]) → WK P l r c S w (enc x) H (fun go H' => if go = true then I (pre ++ [x]) H' else Ix (pre ++ [x]) H')) →
   Sim ⟨P, fn.ntmps, S, w, l :: keys Hx, none, Mp l r c, w.heap.size, []⟩ code ((fn.ntmps, .v undef) :: (0, .v (.func (.yield l) #[] #[])) :: (List.range' 1 caps.length).zip caps) Hx (IE fn.ntmps Sd Sp I Ix)) :
  ItC P g caps enc Sd Sp := by
 intro c l r I Ix Hx S w vs hr1 hr2 hlen hw hnl hrec hown hcaps h0 hY
 have hlt := (Array.getElem?_eq_some_iff.1 hrec).1
 have hl := hcaps.length
 have hn' : caps.length + 1 ≤ fn.ntmps := Nat.le_of_ble_eq_true hn
 have hargs : Qr S w (.v (.func (.yield l) #[] #[]) :: caps) (.func (.yield l) #[] #[] :: vs) := .cons _ _ _ _ (.v _) hcaps
 have henv := UP hargs fn.ntmps
 have eenv : ((List.range (T.v (.func (.yield l) #[] #[]) :: caps).length).zip (T.v (.func (.yield l) #[] #[]) :: caps)) = (0, .v (.func (.yield l) #[] #[])) :: (List.range' 1 caps.length).zip caps := by
  rw [List.length_cons, List.range_eq_range', List.range'_succ, List.zip_cons_cons]
 rw [eenv] at henv
 have earg : (#[.func (.yield l) #[] #[]] ++ vs.toArray : Array Value) = (.func (.yield l) #[] #[] :: vs).toArray := by simp
 rw [earg]
 refine (callsIn_wide (n := 0)).1 (callsIn_of_wp_marks hf hb trivial ?_)
 refine wpIn_mono (h c l r I Ix Hx S w hlen hr1 hr2 ⟨rfl, hnl, List.mem_cons_self, hlt, hw, fun b hb => by
   rcases List.mem_cons.1 hb with rfl | hb
   ·exact hnl
   ·exact hown.apart b hb⟩ h0 hY { tmps := (.func (.yield l) #[] #[] :: vs).toArray ++ Array.replicate (fn.ntmps - (.func (.yield l) #[] #[] :: vs).toArray.size) undef, defers := [] } w
  ⟨S, by simp; omega, ⟨Nat.le_refl _, Mks.zero, fun j hj => ?_⟩, QN.refl _ hw, hown, fun b hb => .inl (List.mem_cons_of_mem _ hb), fun k => ?_⟩) ?_
 ·have hge : ∀ j, Env.get ((0, T.v (.func (.yield l) #[] #[])) :: (List.range' 1 caps.length).zip caps) (fn.ntmps + j) = .any := fun j => by
   have key : ∀ (xs : List T) (i k : Nat), i + xs.length ≤ k → Env.get ((List.range' i xs.length).zip xs) k = .any := by
    intro xs
    induction xs with
    | nil => intro i k _; rfl
    | cons x xs ih =>
     intro i k hk
     rw [List.length_cons, List.range'_succ, List.zip_cons_cons]
     simp only [List.length_cons] at hk
     simp only [Env.get, ZQ (show ¬ i = k by omega), cond_false]
     exact ih (i + 1) k (by omega)
   simp only [Env.get, ZQ (show ¬ 0 = fn.ntmps + j by omega), cond_false]
   exact key caps 1 _ (by omega)
  match j, hj with
  | 0, _ => exact hrec
  | j + 1, hj =>
   have := hj (.bool true) (by
    show Rel S w (Env.get ((fn.ntmps, .v undef) :: _) (fn.ntmps + (j + 1))) _
    simp only [Env.get, ZQ (show ¬ fn.ntmps = fn.ntmps + (j + 1) by omega), cond_false]
    exact (hge (j + 1)) ▸ .any _)
   simp [undef] at this
 ·by_cases hk : k = fn.ntmps
  ·subst hk
   have : Env.get ((fn.ntmps, .v undef) :: (0, T.v (.func (.yield l) #[] #[])) :: (List.range' 1 caps.length).zip caps) fn.ntmps = .v undef := by simp [Env.get]
   rw [this, Array.getD_eq_getD_getElem?, Array.getElem?_eq_none (by simp; omega)]
   exact .v _
  ·have : Env.get ((fn.ntmps, .v undef) :: (0, T.v (.func (.yield l) #[] #[])) :: (List.range' 1 caps.length).zip caps) k = Env.get ((0, T.v (.func (.yield l) #[] #[])) :: (List.range' 1 caps.length).zip caps) k := by
    simp [Env.get, ZQ (show ¬ fn.ntmps = k by omega)]
   rw [this]; exact henv k
 ·rintro e a' w' ⟨t', H', hp, S', hr'⟩
  have fin : (∃ H2, Qh H' H2 ∧ ((t'.get fn.ntmps = .v undef ∧ ∃ xs, Sd xs ∧ I xs H2) ∨ (t'.get (fn.ntmps + 1) = .v undef ∧ ∃ pre, Sp pre ∧ Ix pre H2))) → LeavesInM Fence.wide 0 P fn a'.tmps
    (fun e w' => ∃ u S' H', e = .returned u ∧ Own S' w' H' ∧ ¬ S' l ∧ QN (l :: keys Hx) S w S' w' ∧ (∀ b ∈ keys H', b ∈ keys Hx ∨ w.heap.size ≤ b) ∧
     ((∃ xs, Sd xs ∧ I xs H' ∧ w'.heap[l]? = some (.loop r)) ∨ (∃ pre, Sp pre ∧ Ix pre H' ∧ w'.heap[l]? = some (.loop (Vc r c false))))) a'.defers .returning w' := by
   rintro ⟨H2, hfr, hcase⟩
   have hle := hfr.le hr'.own.nodup
   have hund : ∀ k, t'.get k = .v undef → ∀ u, Rel S' w' (t'.get k) u → u = undef := fun k hk u hu => by rw [hk] at hu; exact hu.v_eq
   have hX : (∃ xs, Sd xs ∧ I xs H2 ∧ w'.heap[l]? = some (.loop r)) ∨ (∃ pre, Sp pre ∧ Ix pre H2 ∧ w'.heap[l]? = some (.loop (Vc r c false))) := by
    rcases hcase with ⟨h1, xs, h2, h3⟩ | ⟨h1, pre, h2, h3⟩
    ·exact .inl ⟨xs, h2, h3, hr'.defers.flags 0 (hund _ h1)⟩
    ·exact .inr ⟨pre, h2, h3, hr'.defers.flags 1 (hund _ h1)⟩
   have hnc : ∀ cs ty fz, w'.heap[l]? ≠ some (.cells cs ty fz) := fun cs ty fz => by
    rcases hX with ⟨_, _, _, h⟩ | ⟨_, _, _, h⟩ <;> rw [h] <;> simp
   obtain ⟨hnd, hmk⟩ := hr'.defers.marks.nil
   refine Jj w.heap.size _ w' hnd hmk fun w2 e1 e2 e3 e4 e5 => ?_
   let B : Nat → Prop := fun b => (⟨.collected b, #[]⟩ : Deferred) ∈ a'.defers ∨ b = l
   have hBm : ∀ b, B b → ∀ o, V6 o = true → w'.heap[b]? ≠ some o := fun b hbm o h2 h3 => by
    rcases hbm with hbm | rfl
    ·obtain ⟨D, hD, h0, h1⟩ := hmk _ hbm
     cases hD
     rw [h1] at h3; cases h3; cases h2
    ·rcases hX with ⟨_, _, _, h⟩ | ⟨_, _, _, h⟩ <;> rw [h] at h3 <;> cases h3 <;> cases h2
   have hB : ∀ b, B b → (w.heap.size ≤ b ∨ b = l) ∧ ∀ cs ty fz, w'.heap[b]? ≠ some (.cells cs ty fz) := fun b hbm => by
    rcases hbm with hbm | rfl
    ·obtain ⟨D, hD, h0, h1⟩ := hmk _ hbm
     cases hD
     exact ⟨.inl h0, fun cs ty fz => by rw [h1]; simp⟩
    ·exact ⟨.inr rfl, hnc⟩
   have hlm : (⟨.collected l, #[]⟩ : Deferred) ∉ a'.defers := fun hm => by
    obtain ⟨D, hD, h0, h1⟩ := hmk _ hm
    cases hD
    exact absurd hlt (Nat.not_lt.2 h0)
   have hm : ∀ b, (S' b ∧ ¬ B b) → (S' b ∧ ¬ B b) ∧ w2.heap[b]? = w'.heap[b]? := fun b hb => ⟨hb, e5 b (fun h => hb.2 (.inl h))⟩
   have hown' := hr'.own.le hle
   have hown2 : Own (fun b => S' b ∧ ¬ B b) w2 H2 := ⟨hown'.nodup, fun b hb hS => hown'.apart b hb hS.1, fun p hp => by
    exact (hown'.has p hp).shrunk (fun b hb => (hB b hb).2) hBm (fun hnb => e5 p.1 (fun h => hnb (.inl h))) hm⟩
   refine ⟨.tuple #[], by simp [results, hres], .tuple #[], fun b => S' b ∧ ¬ B b, H2, rfl, hown2, fun h => h.2 (.inr rfl), ⟨e1.trans hr'.step.os, e2.trans hr'.step.tape, e3.trans hr'.step.output, by rw [e4]; exact hr'.step.size,
    fun b hb hn => (e5 b (fun hbm => ?_)).trans (hr'.step.keep b hb hn), fun b hb => ⟨hr'.step.sub b hb, fun hbm => ?_⟩, fun b hb => hr'.step.new b hb.1, fun b hb => by rw [e4]; exact hr'.step.wf b hb.1⟩, fun b hb => ?_, ?_⟩
   ·rcases (hB b (.inl hbm)).1 with h | h
    ·omega
    ·exact hlm (h ▸ hbm)
   ·rcases (hB b hbm).1 with h | h
    ·have := hw b hb; omega
    ·exact hnl (h ▸ hb)
   ·rcases hr'.mine b (hle.sub b hb) with h | h
    ·rcases List.mem_cons.1 h with rfl | h
     ·exact absurd hb (hown'.obj (o := w'.heap[b]'(by
       rcases hX with ⟨_, _, _, h⟩ | ⟨_, _, _, h⟩ <;> exact (Array.getElem?_eq_some_iff.1 h).1)) (by simp) (by
        rcases hX with ⟨_, _, _, h⟩ | ⟨_, _, _, h⟩ <;> (rw [(Array.getElem?_eq_some_iff.1 h).2]; rfl)))
     ·exact .inl h
    ·exact .inr h
   ·rw [e5 l hlm]; exact hX
  cases e with
  | normal => exact fin hp
  | ret => exact fin hp
  | _ => exact hp.elim
theorem O4 {N : Env → Qc → Prop} {l : Nat} {r : Loop} {c : Code} {x : Operand} {xs : Array Operand} {ats : Array TypeId} {ds : List T} {Hx Hr : Qc} {Φ : Bool → Qc → Prop} {tp : TypeId} {pos : String} {aft : Array Edge} {gd : Option (Nat × Bool)} {kd : Tmp}
  (hY : WK K.P l r c K.S0 K.w0 ds Hx Φ) (hp : H.Perm (Hx ++ Hr)) (hlen : ds.length = r.params.size) (hK : ItK K l r c) (hflag : t.get K.n = .v undef) (hx : t.ev x = .v (.func (.yield l) #[] #[])) (ha : EvL t xs.toList ds) (hd : Nat.blt kd K.n = true)
  (hT : ∀ H', Φ true H' → N ((kd, .v (.bool true)) :: t) (H' ++ Hr)) (hF : ∀ H', Φ false H' → N ((kd, .v (.bool false)) :: (K.n + 1, .v undef) :: (K.n, .any) :: t) (H' ++ Hr)) :
  EOp K t H ⟨some kd, .call ⟨.value x, xs, ats⟩, tp, pos, aft, gd⟩ N := by
 intro a w hR Kc Q hk
 obtain ⟨S, hr⟩ := hR.perm hp
 have h1 := hr.env.ev x; rw [hx] at h1
 have hrl : Qr S w ds (xs.toList.map a.eval) := ha.rel fun x _ => hr.env.ev x
 have hrec : w.heap[l]? = some (.loop r) := by
  have := hr.defers.flags 0 (fun u hu => by rw [Nat.add_zero, hflag] at hu; exact hu.v_eq)
  rw [hK.fl] at this; exact this
 have hnc : ∀ cs ty fz, w.heap[l]? ≠ some (.cells cs ty fz) := fun _ _ _ => by rw [hrec]; simp
 have hlH : l ∉ keys (Hx ++ Hr) := hr.own.obj hrec rfl
 have hlx : l ∉ keys Hx := fun h => hlH (by rw [Qk]; exact List.mem_append_left _ h)
 have hlt := (Array.getElem?_eq_some_iff.1 hrec).1
 have hkn : kd < K.n := by simpa using hd
 have hshL : ∀ {x : List T} {y : List Value}, Qr S w x y → Qr (fun b => S b ∧ ¬ b = l) w x y := fun h => Qr.shrink (B := fun b => b = l) (fun b hb cs ty fz => by subst hb; exact hnc cs ty fz) h
 have hsh : ∀ {x : T} {y : Value}, Rel S w x y → Rel (fun b => S b ∧ ¬ b = l) w x y := fun h => Rel.shrink (B := fun b => b = l) (fun b hb cs ty fz => by subst hb; exact hnc cs ty fz) h
 have hwf1 : Wf (fun b => S b ∧ ¬ b = l) w := fun b hb => hr.wf b hb.1
 have hown1 : Own (fun b => S b ∧ ¬ b = l) w (Hx ++ Hr) := ⟨hr.own.nodup, fun b hb hS => hr.own.apart b hb hS.1, fun p hp => by
  exact (hr.own.has p hp).shrunk (B := fun b => b = l) (fun b hb cs ty fz => by subst hb; exact hnc cs ty fz) (fun b hb o h2 h3 => by subst hb; rw [hrec] at h3; cases h3; cases h2) (fun _ => rfl) (fun b hb => ⟨hb, rfl⟩)⟩
 have hcomp : ∀ b, K.S0 b → (S b ∧ ¬ b = l) ∧ w.heap[b]? = K.w0.heap[b]? := fun b hb =>
  ⟨⟨hr.step.sub b hb, fun e => hK.nS (e ▸ hb)⟩, hr.step.keep b (hK.wf b hb) fun h => hK.disj b h hb⟩
 have hst0 : QN K.F0 K.S0 K.w0 (fun b => S b ∧ ¬ b = l) w := ⟨hr.step.os, hr.step.tape, hr.step.output, hr.step.size, hr.step.keep, fun b hb => (hcomp b hb).1, fun b hb => hr.step.new b hb.1, hwf1⟩
 have hrun : (execOp a.eval ⟨some kd, .call ⟨.value x, xs, ats⟩, tp, pos, aft, gd⟩).run K.P w = .ok (.round l r.fn ((r.params.zip (xs.toList.map a.eval).toArray).foldl (fun tmps (x : Tmp × Value) => tmps.setIfInBounds x.1 x.2) r.tmps) r.assign r.body) w := by
  have e1 : (execOp a.eval ⟨some kd, .call ⟨.value x, xs, ats⟩, tp, pos, aft, gd⟩).run K.P w = (Instr.yield l (xs.map a.eval)).run K.P w := by
   simp [execOp, resolve, h1.v_eq, Deferred.ofValue, invoke]
  have e2 : xs.map a.eval = (xs.toList.map a.eval).toArray := by apply Array.ext'; simp
  rw [e1, e2, run_yield hrec (by have := hrl.length; simp at this ⊢; omega)]
 have e0 : Oper.semAt (RF K.rd).round a.eval ⟨some kd, .call ⟨.value x, xs, ats⟩, tp, pos, aft, gd⟩ = execOp a.eval ⟨some kd, .call ⟨.value x, xs, ats⟩, tp, pos, aft, gd⟩ := by
  cases K.rd <;> rfl
 refine ⟨fun _ _ => trivial, ?_⟩
 rw [e0, hrun]
 refine ⟨fun h => Bool.noConfusion (show false = true from h), ?_⟩
 have := hY _ w _ hwf1 (fun h => h.2 rfl) hown1.left (hshL hrl) hcomp hrec
 refine RoundIn.mono (show RoundIn (RF K.rd) 0 K.P l r.fn _ r.assign r.body w _ from this) ?_
 rintro e w' ⟨go, S', H', rfl, hΦ, hown', hst, hnl', hkeys, hrec'⟩
 have hdis : ∀ b ∈ l :: keys Hx, ¬ (S b ∧ ¬ b = l) := fun b hb hS => by
  rcases List.mem_cons.1 hb with rfl | hb
  ·exact hS.2 rfl
  ·exact hown1.left.apart b hb hS
 have hm := hst.mono hwf1 hdis
 have hlr : l ∉ keys Hr := fun h => hlH (by rw [Qk]; exact List.mem_append_right _ h)
 have hkl : ∀ b ∈ l :: keys Hx, b ∈ K.F0 ∨ K.w0.heap.size ≤ b := fun b hb => by
  rcases List.mem_cons.1 hb with rfl | hb
  ·exact .inl hK.inF
  ·exact hr.mine b (by rw [Qk]; exact List.mem_append_left _ hb)
 have hobj : ∀ b o, b ≠ l → w.heap[b]? = some o → V6 o = false → w'.heap[b]? = some o := fun b o hbl hb ho => by
  have hbH := hr.own.obj hb ho
  exact (hst.keep b (Array.getElem?_eq_some_iff.1 hb).1 (fun h => by
   rcases List.mem_cons.1 h with h | h
   ·exact hbl h
   ·exact hbH (by rw [Qk]; exact List.mem_append_left _ h))).trans hb
 have hownF : Own S' w' (H' ++ Hr) := by
  refine ⟨?_, ?_, ?_⟩
  ·rw [Qk]
   refine List.nodup_append.2 ⟨hown'.nodup, hr.own.right.nodup, fun b hb c hc' e => ?_⟩
   subst e
   rcases hkeys b hb with h1 | h1
   ·exact hr.own.disj b h1 hc'
   ·have := hr.own.right.lt b hc'; omega
  ·intro b hb hS
   rw [Qk] at hb
   rcases List.mem_append.1 hb with hb | hb
   ·exact hown'.apart b hb hS
   ·rcases hst.new b hS with h1 | h1 | h1
    ·exact hr.own.right.apart b hb h1.1
    ·have := hr.own.right.lt b hb; omega
    ·rcases List.mem_cons.1 h1 with rfl | h1
     ·exact hlr hb
     ·exact hr.own.disj b h1 hb
  ·intro p hp'
   rcases List.mem_append.1 hp' with hp' | hp'
   ·exact hown'.has p hp'
   ·have hk' : p.1 ∈ keys Hr := List.mem_map.2 ⟨p, hp', rfl⟩
    have h1 := hown1.right.has p hp'
    exact h1.mono (hst.keep _ h1.lt (fun h => by
     rcases List.mem_cons.1 h with h | h
     ·exact hlr (h ▸ hk')
     ·exact hr.own.disj _ h hk')) hm
 have hmine : ∀ b ∈ keys (H' ++ Hr), b ∈ K.F0 ∨ K.w0.heap.size ≤ b := fun b hb => by
  rw [Qk] at hb
  rcases List.mem_append.1 hb with hb | hb
  ·rcases hkeys b hb with h1 | h1
   ·exact hr.mine b (by rw [Qk]; exact List.mem_append_left _ h1)
   ·have := hr.step.size; exact .inr (by omega)
  ·exact hr.mine b (by rw [Qk]; exact List.mem_append_right _ hb)
 have henv : ZC S' w' t a := fun k => (hsh (hr.env k)).mono hm
 have hmarks : Mks K.D K.mb a.defers w' := hr.defers.marks.step fun D h3 => hobj D _ (fun e => by rw [e, hrec] at h3; cases h3) h3 rfl
 have hlow := Nat.le_trans hr.defers.low hst.size
 have hsize : (a.put (some kd) (.bool go)).tmps.size = K.n := by simp [hr.size]
 cases go with
 | true =>
  refine hk _ _ _ _ (hT H' hΦ) ⟨S', hsize, Ext.put (dst := some kd) ⟨hlow, hmarks, fun j hj => ?_⟩ (by simpa [Xo] using hd), hst0.trans hst hkl, hownF, hmine, henv.put (dst := some kd) (by rw [hr.size]; exact hd) (.v _)⟩
  have hX := hr.defers.flags j fun u hu => hj u ((hsh hu).mono hm)
  rw [hK.fl] at hX ⊢
  match j, hX with
  | 0, _ => exact hrec'
  | 1, h =>
   have h : w.heap[l]? = some (.loop (Vc r c false)) := h
   show w'.heap[l]? = some (.loop (Vc r c false))
   rw [hrec] at h
   rw [← h]; exact hrec'
  | _ + 2, _ => trivial
 | false =>
  refine hk _ _ _ _ (hF H' hΦ) ⟨S', hsize, Ext.put (dst := some kd) (t := (K.n + 1, .v undef) :: (K.n, .any) :: t) ⟨hlow, hmarks, fun j hj => ?_⟩ (by simpa [Xo] using hd), hst0.trans hst hkl, hownF, hmine, ?_⟩
  ·rw [hK.fl]
   match j, hj with
   | 0, hj =>
    have := hj (.bool true) (by
     have : Env.get ((K.n + 1, .v undef) :: (K.n, .any) :: t) (K.n + 0) = .any := by simp [Env.get, ZQ (show ¬ K.n + 1 = K.n by omega)]
     rw [this]; exact .any _)
    simp [undef] at this
   | 1, _ => exact hrec'
   | _ + 2, _ => trivial
  ·refine ZC.put (dst := some kd) (t := (K.n + 1, .v undef) :: (K.n, .any) :: t) (fun k => ?_) (by rw [hr.size]; exact hd) (.v _)
   by_cases h1 : k = K.n + 1
   ·subst h1
    have : Env.get ((K.n + 1, .v undef) :: (K.n, .any) :: t) (K.n + 1) = .v undef := by simp [Env.get]
    rw [this, Array.getD_eq_getD_getElem?, Array.getElem?_eq_none (by rw [hr.size]; omega)]
    exact .v _
   ·by_cases h2 : k = K.n
    ·subst h2
     have : Env.get ((K.n + 1, .v undef) :: (K.n, .any) :: t) K.n = .any := by simp [Env.get, ZQ (show ¬ K.n + 1 = K.n by omega)]
     rw [this]; exact .any _
    ·have : Env.get ((K.n + 1, .v undef) :: (K.n, .any) :: t) k = t.get k := by simp [Env.get, ZQ (show ¬ K.n + 1 = k by omega), ZQ (show ¬ K.n = k by omega)]
     rw [this]; exact henv k
theorem TC {N : Env → Qc → Prop} {l : Nat} {r : Loop} {c : Code} {x : Operand} {xs : Array Operand} {ats : Array TypeId} {ds : List T} {Hx Hr : Qc} {Φ : Bool → Qc → Prop} {tp : TypeId} {pos : String} {aft : Array Edge} {kd : Tmp} {ops : Array Oper} {i : Nat} {ol : List Oper}
  (hY : WK K.P l r c K.S0 K.w0 ds Hx Φ) (hp : H.Perm (Hx ++ Hr)) (hlen : ds.length = r.params.size) (hK : ItK K l r c)
  (hT : ∀ H', Φ true H' → Qf K ops (i + 1) ol ((kd, .v (.bool (decide True))) :: t) (H' ++ Hr) N) (hF : ∀ H', Φ false H' → Qf K ops (i + 1) ol ((kd, .v (.bool (decide False))) :: (K.n + 1, .v undef) :: (K.n, .any) :: t) (H' ++ Hr) N)
  (hflag : t.get K.n = .v undef := by exact zG) (hx : t.ev x = .v (.func (.yield l) #[] #[]) := by exact zl) (ha : EvL t xs.toList ds := by exact ze) (hd : Nat.blt kd K.n = true := by rfl) :
  Qf K ops i (⟨some kd, .call ⟨.value x, xs, ats⟩, tp, pos, aft, none⟩ :: ol) t H N := UK rfl (O4 hY hp hlen hK hflag hx ha hd (fun H' h => hT H' h) (fun H' h => hF H' h))
theorem Wd {α : Type} {n : Nat} {Sd Sp : List α → Prop} {I Ix : List α → Qc → Prop} {t : Env} {H : Qc} {xs : List α} (h1 : Sd xs) (h2 : I xs H) (h : t.get n = .v undef := by exact zG) : IE n Sd Sp I Ix .normal t H := ⟨H, kR, .inl ⟨h, xs, h1, h2⟩⟩
theorem GE {α : Type} {n : Nat} {Sd Sp : List α → Prop} {I Ix : List α → Qc → Prop} {t : Env} {H : Qc} {pre : List α} (h1 : Sp pre) (h2 : Ix pre H) (h : t.get (n + 1) = .v undef := by exact zG) : IE n Sd Sp I Ix .ret t H := ⟨H, kR, .inr ⟨h, pre, h1, h2⟩⟩
end
section
variable {K : Ctx} {P : Program} {t : Env} {H Hs G Hr : Qc} {S : Nat → Prop} {w : World} {N : Env → Qc → Prop} {Ψ : Exit → Env → Qc → Prop}
theorem R.name {k : Nat} {a : Act} (hd : Nat.blt k K.n = true) (hR : R K t H a w) : ∃ S u, Rel S w (t.get k) u ∧ R1 K ((k, .v u) :: t) H a w S := by
 obtain ⟨S, hr⟩ := hR
 have hk : k < K.n := Nat.blt_eq.mp hd
 refine ⟨S, _, hr.env k, hr.size, hr.defers.env (fun j => ?_), hr.step, hr.own, hr.mine, fun j => ?_⟩
 ·simp [Env.get, ZQ (show ¬ k = K.n + j by omega)]
 ·by_cases h : k = j
  ·subst h
   simp only [Env.get, Nat.beq_refl]
   exact .v _
  ·simpa [Env.get, ZQ h] using hr.env j
theorem Oj {f : Bool} {xs : List T} {u : Value} (h : Rel S w (.sl f xs) u) : ∃ p c, u = .slice p xs.length c ∧ (p = none → xs = []) ∧ (f = true → c = xs.length) := by
 cases h with
 | nil _ p c hf => exact ⟨p, c, rfl, fun _ => rfl, hf⟩
 | sl _ _ b o c vs k cs ty fz hs hb hr hg hf hc => exact ⟨some ⟨b, o, none⟩, c, by rw [hr.length], (fun e => by cases e), fun e => by rw [hf e, hr.length]⟩
theorem Zh {ops : Array Oper} {i : Nat} {l : List Oper} {f : Bool} {xs : List T} (k : Nat) (h : ∀ p c', (p = none → xs = []) → (f = true → c' = xs.length) → Qf K ops i l ((k, .v (.slice p xs.length c')) :: t) H N) (hg : t.get k = .sl f xs := by rfl) (hd : Nat.blt k K.n = true := by rfl) : Qf K ops i l t H N := fun hl a w Q hR hq => by
 obtain ⟨S, u, h1, h2⟩ := hR.name hd
 rw [hg] at h1
 obtain ⟨p, c', rfl, h3, h4⟩ := Oj h1
 exact h p c' h3 h4 hl a w Q ⟨S, h2⟩ hq
variable {dst : Option Tmp} {tp : TypeId} {pos : String} {aft : Array Edge} {g : Option (Nat × Bool)} {ty ty' : TypeId}
theorem WO {e : TypeId} (w : World) {ty : TypeId} {p : Option Addr} {n c : Nat} (hu : P.underlying ty = some (.slice e)) (d : Nat) : (Op.equalIn (d + 1) ty (.slice p n c) (.slice none 0 0)).run P w = .ok (decide (p = none)) w := by
 cases p <;> simp [Op.equalIn, run_underlying hu]
theorem LY {e : TypeId} (w : World) {ty : TypeId} {p : Option Addr} {n c : Nat} (hu : P.underlying ty = some (.slice e)) : (Op.equal ty (.slice p n c) (.slice none 0 0)).run P w = .ok (decide (p = none)) w := WO w hu 9999
theorem Ow {x : Operand} {p : Option Addr} {n c : Nat} {e : TypeId} (hx : t.ev x = .v (.slice p n c)) (hu : P.underlying ty = some (.slice e)) : POp P t H ⟨dst, .binOp .eql ty x (.const (.slice none 0 0)) ty', tp, pos, aft, g⟩ (.v (.bool (decide (p = none)))) :=
 Q8 hx Ws fun w => by
  have := LY w (p := p) (n := n) (c := c) hu
  simp [eqGuard, binOp, this]
theorem LB {f : FuncId} {xs : Array Operand} {ats : Array TypeId} {args args' : List T} {Φ : T → Qc → Prop} (hf : FnH K.P f args' [] Φ) (hp : H.Perm (G ++ Hr)) (hc : QE K.P f = true) (ha' : EvL t xs.toList args) (hl : Qg G args args')
  (hΦ : ∀ r H', Φ r H' → r.plain = true ∧ ∀ p ∈ H', p.2.vals.all T.isV = true) (hd : Xo dst K.n = true) (hn : ∀ r H', Φ r H' → N (t.put dst r) (H' ++ H)) : EOp K t H ⟨dst, .call ⟨.value (.func f), xs, ats⟩, tp, pos, aft, g⟩ N := by
 have ha := ha'.eq
 refine EOp.of_w (fun c e => by cases e) ?_
 intro a w ⟨S, hr⟩ Kc Q hk
 unfold Oper.wp
 have e : execOp a.eval ⟨dst, .call ⟨.value (.func f), xs, ats⟩, tp, pos, aft, g⟩ = callFunc f (#[] ++ xs.map a.eval ++ #[]) := rfl
 rw [e, Zo hc]
 simp only [Oper.upon]
 have hrl : Qr S w args (xs.toList.map a.eval) := ha ▸ Z4 xs.toList fun x h => hr.env.ev x
 have hog : Own S w G := (hr.own.perm hp).left
 have hw' : Wf (fun b => S b ∨ b ∈ keys G) w := fun b hb => hb.elim (hr.wf b) (hog.lt b)
 have := hf _ w _ hw' (Own.nil _ w) (hl S w _ hog hrl)
 have e2 : (xs.toList.map a.eval).toArray = #[] ++ xs.map a.eval ++ #[] := by apply Array.ext'; simp
 rw [← e2]
 refine this.mono ?_
 rintro e w' ⟨u, S', r, H', rfl, hΦ', hrel, hown, hst, hkeys⟩
 have h1 := hΦ r H' hΦ'
 have hst' : QN (keys []) S w S w' := ⟨hst.os, hst.tape, hst.output, hst.size, hst.keep, fun _ h => h, fun _ h => .inl h, fun b hb => Nat.lt_of_lt_of_le (hr.wf b hb) hst.size⟩
 have hown' : Own S w' H' := ⟨hown.nodup, fun b hb hS => by
  rcases hkeys b hb with h | h
  ·exact absurd h (by simp [keys])
  ·have := hr.wf b hS; omega, fun p hp' => by
  exact (hown.has p hp').plain (h1.2 p hp')⟩
 exact hk _ _ _ _ (hn r H' hΦ') ⟨S, R1.called (Hs := []) (Hr := H) hr hown' hst' hkeys hd (La h1.1 hrel)⟩
theorem OSl.take {e : TypeId} {k : Nat} {xs : List T} {p : Option Addr} {c n : Nat} (h : OSl e k xs (.slice p n c) Hs) (hk : ∀ x ∈ xs, x.cells.length = k) (j : Nat) : ∃ Hs', Qh Hs Hs' ∧ OSl e k (xs.take j) (.slice p (min j xs.length) c) Hs' := by
 rcases h with ⟨rfl, ⟨q, e1⟩, rfl⟩ | ⟨b, c', e1, hc, rfl⟩
 ·cases e1
  exact ⟨[], kR, by simpa using UF⟩
 ·cases e1
  refine ⟨[(b, ⟨e, (xs.take j).flatMap T.cells, c * k⟩)], .keep _ _ _ _ _ ⟨rfl, rfl, ?_, ?_⟩ kR, .inr ⟨b, c, by simp, by simp; omega, rfl⟩⟩
  ·rw [Ym xs hk, Ym _ (fun x hx => hk x (List.mem_of_mem_take hx))]
   simp only [List.length_take]
   exact Nat.mul_le_mul_right _ (Nat.min_le_right _ _)
  ·have : (xs.flatMap T.cells).take ((xs.take j).flatMap T.cells).length = (xs.take j).flatMap T.cells := by
    conv => lhs; rw [← List.take_append_drop j xs, List.flatMap_append]
    simp
   rw [this]
   exact LeL.refl _
theorem rh {fn : Func} {Φ : T → Qc → Prop} {rs : List ResultVar} {ds : List T} {d : T} {H' : Qc} (hF : Qh H H') (hp : Φ d H') (hl : Le (XW ds) d) (hr : fn.results.toList = rs := by rfl) (h : YO P t H rs ds := by exact zrs) : Vq P fn Φ .ret t H := ⟨ds, d, H', hr ▸ h, hl, hp, hF.le⟩
theorem rhn {fn : Func} {Φ : T → Qc → Prop} {rs : List ResultVar} {ds : List T} {d : T} {H' : Qc} (hF : Qh H H') (hp : Φ d H') (hl : Le (XW ds) d) (hr : fn.results.toList = rs := by rfl) (h : YO P t H rs ds := by exact zrs) : Vq P fn Φ .normal t H := ⟨ds, d, H', hr ▸ h, hl, hp, hF.le⟩
theorem Xr.of_perm {H H0 H' : Qc} (hp : H.Perm H0) (hF : Qh H0 H') (hn : (keys H).Nodup) : Xr H H' := by
 obtain ⟨h1, h2⟩ := hF.le ((Ze hp).nodup_iff.1 hn)
 exact ⟨h1, fun p hp' => let ⟨k, h3, h4⟩ := h2 p hp'; ⟨k, hp.mem_iff.2 h3, h4⟩⟩
theorem rhp {fn : Func} {Φ : T → Qc → Prop} {rs : List ResultVar} {ds : List T} {d : T} {H0 H' : Qc} (hP : H.Perm H0) (hF : Qh H0 H') (hp : Φ d H') (hl : Le (XW ds) d) (hr : fn.results.toList = rs := by rfl) (h : YO P t H rs ds := by exact zrs) : Vq P fn Φ .ret t H := ⟨ds, d, H', hr ▸ h, hl, hp, .of_perm hP hF⟩
theorem TR {fn : Func} {Φ : T → Qc → Prop} {rs : List ResultVar} {ds : List T} {d : T} {H0 H' : Qc} (hP : H.Perm H0) (hF : Qh H0 H') (hp : Φ d H') (hl : Le (XW ds) d) (hr : fn.results.toList = rs := by rfl) (h : YO P t H rs ds := by exact zrs) : Vq P fn Φ .normal t H := ⟨ds, d, H', hr ▸ h, hl, hp, .of_perm hP hF⟩
theorem QA {ops : Array Oper} {i : Nat} {l : List Oper} {H' : Qc} (hp : H.Perm H') (h : Qf K ops i l t H' N) : Qf K ops i l t H N := fun hl a w Q hR hq => h hl a w Q (hR.perm hp) hq
theorem Is {c : Code} {p0 : Nat × Blk} {d : T} (k : Nat) (x : T) (hl : Qx G d x) (h : Sim K c ((k, x) :: t) [p0] Ψ) (hg : t.get k = d := by rfl) : Sim K c t (p0 :: G) Ψ :=
 Z2 (G := G) (H1 := [p0]) [(k, x)] (List.perm_append_comm (l₁ := [p0])) ⟨hg ▸ hl, trivial⟩ h
def JX (sz : Nat) (p : Option Addr) (c lo n : Nat) : Value := .slice (p.map fun a => if c = lo then a else a.add (lo * sz)) n (c - lo)
theorem OSl.cap {e : TypeId} {k : Nat} {xs : List T} {p : Option Addr} {n c : Nat} (h : OSl e k xs (.slice p n c) Hs) : n ≤ c := by
 rcases h with ⟨rfl, ⟨q, e1⟩, _⟩ | ⟨b, c', e1, hc, _⟩
 ·cases e1; exact Nat.le_refl _
 ·cases e1; exact hc
theorem LW {e : TypeId} {inf : TypeInfo} {p : Option Addr} {n c lo hi : Nat} (hu : P.underlying ty = some (.slice e)) (hi' : P.info? e = some inf) {ol oh om : Option Value} (hrun : (Instr.sliceBounds true n c ol oh om).run P w = .ok (lo, hi, c) w) :
  (Instr.sliceAt ty (.slice p n c) ol oh om).run P w = .ok (JX inf.size p c lo (hi - lo)) w := by
 cases p with
 | none => simp [Instr.sliceAt, Instr.slice, run_underlying hu, hrun, Qy hi', JX]
 | some a =>
  by_cases hcl : c = lo
  ·subst hcl
   simp [Instr.sliceAt, Instr.slice, run_underlying hu, hrun, Qy hi', JX]
  ·simp [Instr.sliceAt, Instr.slice, run_underlying hu, hrun, Qy hi', JX, hcl]
theorem Oo {x l : Operand} {p : Option Addr} {n c : Nat} {k : IntKind} {i : Int} {d : T} {by_ : Nat} (hx : t.ev x = .v (.slice p n c)) (hl : t.ev l = .v (.int k i)) [hz : QL P ty d by_] (h0 : 0 ≤ i) (h2 : i ≤ n) (hc : n ≤ c) :
  POp P t H ⟨dst, .slice ty x (some l) none none, tp, pos, aft, g⟩ (.v (JX d.cells.length p c i.toNat (n - i.toNat))) :=
 POp.still fun S w a _ _ hr => by
  have e1 := hr x (by simp [Op.operands]); rw [hx] at e1
  have e2 := hr l (by simp [Op.operands]); rw [hl] at e2
  obtain ⟨e, inf, hu, hinf, hs, hp⟩ := YI (P := P) (ty := ty) (d := d) (by_ := by_)
  have := LW (P := P) (w := w) (p := p) (n := n) (c := c) (lo := i.toNat) (hi := n) (ol := some (a.eval l)) (oh := none) (om := none) hu hinf (by
   rw [e2.v_eq]
   simp [Instr.sliceBounds, Xn (P := P) h0 (show i ≤ (n : Nat) by omega)])
  rw [hs] at this
  exact ⟨_, by simp [execOp, e1.v_eq, this], .v _⟩
theorem Oq {x h : Operand} {p : Option Addr} {n c : Nat} {k : IntKind} {j : Int} {d : T} {by_ : Nat} (hx : t.ev x = .v (.slice p n c)) (hh : t.ev h = .v (.int k j)) [hz : QL P ty d by_] (h0 : 0 ≤ j) (h2 : j ≤ n) (hc : n ≤ c) :
  POp P t H ⟨dst, .slice ty x none (some h) none, tp, pos, aft, g⟩ (.v (JX d.cells.length p c 0 j.toNat)) :=
 POp.still fun S w a _ _ hr => by
  have e1 := hr x (by simp [Op.operands]); rw [hx] at e1
  have e3 := hr h (by simp [Op.operands]); rw [hh] at e3
  obtain ⟨e, inf, hu, hinf, hs, hp⟩ := YI (P := P) (ty := ty) (d := d) (by_ := by_)
  have := LW (P := P) (w := w) (p := p) (n := n) (c := c) (lo := 0) (hi := j.toNat) (ol := none) (oh := some (a.eval h)) (om := none) hu hinf (by
   rw [e3.v_eq]
   simp [Instr.sliceBounds, Xn (P := P) h0 (show j ≤ (c : Nat) by omega)])
  rw [hs] at this
  exact ⟨_, by simp [execOp, e1.v_eq, this], .v _⟩
theorem Qx.sub {P : Program} (ty : TypeId) {d : T} {by_ : Nat} [hz : QL P ty d by_] {f : Bool} {p : Option Addr} {n c lo hi : Nat} {xs : List T} (h : Qx G (.v (.slice p n c)) (.sl f xs)) (hk : ∀ x ∈ xs, x.cells.length = d.cells.length) (h1 : lo ≤ hi) (h2 : hi ≤ xs.length) (hn : xs.length = n) (hc : n ≤ c) :
  Qx G (.v (JX d.cells.length p c lo (hi - lo))) (.sl (f && Nat.beq hi xs.length) ((xs.drop lo).take (hi - lo))) := by
 intro S w u ho hr
 rw [hr.v_eq]
 have hR := h S w _ ho (.v _)
 obtain ⟨e, inf, hu, hinf, hs, hp⟩ := YI (P := P) (ty := ty) (d := d) (by_ := by_)
 have hb : (Instr.sliceBounds true n c (some (.int .i64 lo)) (some (.int .i64 hi)) none).run P w = .ok (lo, hi, c) w := by
  simp [Instr.sliceBounds, Xn (P := P) (show (0 : Int) ≤ hi by omega) (show (hi : Int) ≤ (c : Nat) by omega), Xn (P := P) (show (0 : Int) ≤ lo by omega) (show (lo : Int) ≤ (hi : Nat) by omega)]
 obtain ⟨v, hv, hrel⟩ := Uv (P := P) (ty := ty) (inf := inf) (lo := lo) (hi := hi) (ol := some (.int .i64 lo)) (oh := some (.int .i64 hi)) (om := none) hR (by rw [hs]; exact hk) hp h1 h2 hu hinf (by rw [hn]; exact hb)
 have h3 := LW (P := P) (w := w) (p := p) (n := n) (c := c) hu hinf hb
 rw [hv] at h3
 rw [hs] at h3
 cases h3
 exact hrel
theorem Vf : ∀ {H : Qc}, H.Perm (H ++ []) := by simp
theorem EvL.trans {t t' : Env} : ∀ {xs : List Operand} {ds : List T}, EvL t xs ds → (∀ x ∈ xs, t'.ev x = t.ev x) → EvL t' xs ds
 | [], [], _, _ => trivial
 | x :: xs, d :: ds, h, he => ⟨(he x List.mem_cons_self).trans h.1, EvL.trans h.2 fun y hy => he y (List.mem_cons_of_mem _ hy)⟩
theorem Ay {x : Operand} {p : Option Addr} {n c : Nat} {e : TypeId} (hx : t.ev x = .v (.slice p n c) := by exact zl) (hu : P.underlying ty = some (.slice e) := by rfl) : POp P t H ⟨dst, .binOp .eql ty x (.const (.slice none 0 0)) ty', tp, pos, aft, g⟩ (.v (.bool (decide (p = none)))) := Ow hx hu
theorem Lh {x : Operand} {f off n : Nat} {ys cs : List T} [hf : Q6 P ty f off n true] (hx : t.ev x = .adr (.agg ys) := by exact zl) (hc : Xs ys off n cs := by exact zt) (hn : Nat.blt 0 n = true := by rfl) : POp P t H ⟨dst, .fieldAddr ty x f, tp, pos, aft, g⟩ (.adr (.agg cs)) := by
 have := UA (P := P) (t := t) (H := H) (dst := dst) (tp := tp) (pos := pos) (aft := aft) (g := g) (ty := ty) hx (hf := hf) (Nat.blt_eq.mp hn) hc.eq.2
 simp only [hc.eq.1] at this
 exact this
theorem Tl {xs : List T} {f : Bool} {dx dy : T} {d : T} {by_ : Nat} [hz : QL P ty d by_] {x y : Operand} (hx : t.ev x = dx := by exact zl) (hxl : Le dx (.sl true xs) := by exact zL) (hy : t.ev y = dy := by exact zl) (hyl : Le dy (.sl f []) := by exact zL) (hs : QR P ty' = true := by rfl) :
  POp P t H ⟨dst, .call ⟨.builtin .append, #[x, y], #[ty, ty']⟩, tp, pos, aft, g⟩ (.sl true xs) := M9 hx hxl hy hyl hs
variable {ops : Array Oper} {i : Nat} {l : List Oper} {eff : List Nat} {pend : List Xg} {al : List (Nat × Oper)}
theorem Ah {kd : Tmp} {f : FuncId} {xs : Array Operand} {ats : Array TypeId} {args args' : List T} {Φ : T → Qc → Prop} (hf : FnH K.P f args' [] Φ) (hl : Qg G args args') (hp : ∃ Hr, H.Perm (G ++ Hr)) (hΦ : ∀ r H', Φ r H' → r.plain = true ∧ ∀ p ∈ H', p.2.vals.all T.isV = true)
  (hn : ∀ r H', Φ r H' → Qf K ops (i + 1) l ((kd, r) :: t) (H' ++ H) N) (hc : QE K.P f = true := by rfl) (ha' : EvL t xs.toList args := by exact ze) (hd : Xo (some kd) K.n = true := by rfl) :
  Qf K ops i (⟨some kd, .call ⟨.value (.func f), xs, ats⟩, tp, pos, aft, none⟩ :: l) t H N := let ⟨_, hp⟩ := hp; YG (LB hf hp hc ha' hl hΦ hd hn)
theorem Cd {kd : Tmp} {f : FuncId} {xs : Array Operand} {ats : Array TypeId} {args args' : List T} {Φ : T → Qc → Prop} (hf : FnH K.P f args' [] Φ) (hl : Qg H args args') (hΦ : ∀ r H', Φ r H' → r.plain = true ∧ ∀ p ∈ H', p.2.vals.all T.isV = true)
  (hn : ∀ r H', Φ r H' → Qf K ops (i + 1) l ((kd, r) :: t) (H' ++ H) N) (hc : QE K.P f = true := by rfl) (ha' : EvL t xs.toList args := by exact ze) (hd : Xo (some kd) K.n = true := by rfl) :
  Qf K ops i (⟨some kd, .call ⟨.value (.func f), xs, ats⟩, tp, pos, aft, none⟩ :: l) t H N := Ah (G := H) hf hl ⟨[], by simp⟩ hΦ hn hc ha' hd
theorem VX {f : FuncId} {xs : Array Operand} {ats : Array TypeId} {args args' : List T} {d : T} (hf : FnP P f args' (fun r => r = d)) (hl : Qg H args args') (hc : QE P f = true := by rfl) (ha' : EvL t xs.toList args := by exact ze) (hpl : d.plain = true := by rfl) :
  POp P t H ⟨dst, .call ⟨.value (.func f), xs, ats⟩, tp, pos, aft, g⟩ d := Az hf hl ⟨[], by simp⟩ hc ha' hpl
theorem Ii {v : Value} {x l' : Operand} {p : Option Addr} {n c : Nat} {k : IntKind} {i : Int} {d : T} {by_ : Nat} [hz : QL P ty d by_] (hc : n ≤ c) (he : JX d.cells.length p c i.toNat (n - i.toNat) = v) (hx : t.ev x = .v (.slice p n c) := by exact zl) (hl : t.ev l' = .v (.int k i) := by exact zl) (h0 : 0 ≤ i := by exact zo) (h2 : i ≤ n := by exact zo) :
  POp P t H ⟨dst, .slice ty x (some l') none none, tp, pos, aft, g⟩ (.v v) := he ▸ Oo hx hl h0 h2 hc
theorem Gk {v : Value} {x h' : Operand} {p : Option Addr} {n c : Nat} {k : IntKind} {j : Int} {d : T} {by_ : Nat} [hz : QL P ty d by_] (hc : n ≤ c) (he : JX d.cells.length p c 0 j.toNat = v) (hx : t.ev x = .v (.slice p n c) := by exact zl) (hh : t.ev h' = .v (.int k j) := by exact zl) (h0 : 0 ≤ j := by exact zo) (h2 : j ≤ n := by exact zo) :
  POp P t H ⟨dst, .slice ty x none (some h') none, tp, pos, aft, g⟩ (.v v) := he ▸ Oq hx hh h0 h2 hc
theorem TK {f : FuncId} {xs : Array Operand} {ats : Array TypeId} {args args' : List T} {Φ : T → Qc → Prop} {kd : Tmp} (hf : FnH K.P f args' [] Φ) (hl : Qg G args args') (hp : ∃ Hr, H.Perm (G ++ Hr)) (hΦ : ∀ r H', Φ r H' → r.plain = true ∧ ∀ p ∈ H', p.2.vals.all T.isV = true)
  (hn : ∀ r H', Φ r H' → XO ops ⟨some kd, .call ⟨.value (.func f), xs, ats⟩, tp, pos, aft, none⟩ (H' ++ H) pend ∧ ∃ pend', XI ops ⟨some kd, .call ⟨.value (.func f), xs, ats⟩, tp, pos, aft, none⟩ pend pend' ∧ Qj K ops eff N al ((kd, r) :: t) (H' ++ H) pend') (hc : QE K.P f = true := by rfl) (ha' : EvL t xs.toList args := by exact ze) (hd : Nat.blt kd K.n = true := by rfl) (he : QS eff i = true := by rfl) :
  Qj K ops eff N ((i, ⟨some kd, .call ⟨.value (.func f), xs, ats⟩, tp, pos, aft, none⟩) :: al) t H pend :=
 let ⟨_, hp⟩ := hp
 WJ (fun _ h1 => LB hf hp hc (ha'.trans fun x hx => h1 x (by simp [Op.operands, Call.operands]; exact .inr (by simpa using hx))) hl hΦ (by simpa [Xo] using hd) fun r H' hr' => let ⟨h1, p', h2, h3⟩ := hn r H' hr'; ⟨_, p', rfl, h1, h2, h3⟩) he
theorem FnH.of_le {f : FuncId} {args args' : List T} {Φ : T → Qc → Prop} (hl : LeL args args') (hf : FnH P f args' H Φ) : FnH P f args H Φ := fun S w vs hw ho hr => hf S w vs hw ho (hl S w vs hr)
theorem FnH.lend {f : FuncId} {args args' : List T} {Φ : T → Qc → Prop} (hl : Qg G args args') (hf : FnH P f args' H Φ) : FnH P f args (G ++ H) Φ := fun S w vs hw ho hr => by
 have hog := ho.left
 have hw' : Wf (fun b => S b ∨ b ∈ keys G) w := fun b hb => hb.elim (hw b) (hog.lt b)
 have hoh : Own (fun b => S b ∨ b ∈ keys G) w H := ⟨ho.right.nodup, fun b hb hS => hS.elim (ho.right.apart b hb) (fun h => ho.disj b h hb), fun p hp => (ho.right.has p hp).mono rfl fun b hb => ⟨.inl hb, rfl⟩⟩
 refine (hf _ w vs hw' hoh (hl S w _ hog hr)).mono ?_
 rintro e w' ⟨u, S', r, H', rfl, h1, h2, h3, h4, h5⟩
 refine ⟨u, S', r, H', rfl, h1, h2, h3, ⟨h4.os, h4.tape, h4.output, h4.size, fun c hc hk => h4.keep c hc (fun h => hk (by rw [Qk]; exact List.mem_append_right _ h)), fun c hc => h4.sub c (.inl hc), fun c hc => ?_, h4.wf⟩, fun c hc => (h5 c hc).imp (fun h => by rw [Qk]; exact List.mem_append_right _ h) id⟩
 rw [Qk]
 rcases h4.new c hc with (h | h) | h | h
 ·exact .inl h
 ·exact .inr (.inr (List.mem_append_left _ h))
 ·exact .inr (.inl h)
 ·exact .inr (.inr (List.mem_append_right _ h))
theorem CB {f : FuncId} {xs : Array Operand} {ats : Array TypeId} {args : List T} {Φ : T → Qc → Prop} {kd : Tmp} (hf : FnH K.P f args H Φ)
  (hn : ∀ r H', Φ r H' → XO ops ⟨some kd, .call ⟨.value (.func f), xs, ats⟩, tp, pos, aft, none⟩ H' pend ∧ ∃ pend', XI ops ⟨some kd, .call ⟨.value (.func f), xs, ats⟩, tp, pos, aft, none⟩ pend pend' ∧ Qj K ops eff N al ((kd, r) :: t) H' pend') (hc : QE K.P f = true := by rfl) (ha' : EvL t xs.toList args := by exact ze) (hd : Nat.blt kd K.n = true := by rfl) (he : QS eff i = true := by rfl) :
  Qj K ops eff N ((i, ⟨some kd, .call ⟨.value (.func f), xs, ats⟩, tp, pos, aft, none⟩) :: al) t H pend :=
 WJ (fun _ h1 => YH (Hr := []) hf (by simp) hc (ha'.trans fun x hx => h1 x (by simp [Op.operands, Call.operands]; exact .inr (by simpa using hx))) (by simpa [Xo] using hd) fun r H' hr' => by
  obtain ⟨h1, p', h2, h3⟩ := hn r H' hr'
  rw [List.append_nil]
  exact ⟨_, p', rfl, h1, h2, h3⟩) he
theorem QI {kd : Tmp} {f : FuncId} {xs : Array Operand} {ats : Array TypeId} {args : List T} {Φ : T → Qc → Prop} (hf : FnH K.P f args H Φ) (hn : ∀ r H', Φ r H' → Qf K ops (i + 1) l ((kd, r) :: t) H' N) (hc : QE K.P f = true := by rfl) (ha' : EvL t xs.toList args := by exact ze)
  (hd : Xo (some kd) K.n = true := by rfl) : Qf K ops i (⟨some kd, .call ⟨.value (.func f), xs, ats⟩, tp, pos, aft, none⟩ :: l) t H N :=
 YG (YH (Hr := []) hf (by simp) hc ha' hd fun r H' hr' => by rw [List.append_nil]; exact hn r H' hr')
end
end Go.Cap
