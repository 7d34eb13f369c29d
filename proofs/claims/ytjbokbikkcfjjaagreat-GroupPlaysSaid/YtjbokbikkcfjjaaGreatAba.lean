/-
  Raft's safety: who begins to lead, what a leader lays and hears, what others lay.
-/
import Derived.Test.YtjbokbikkcfjjaaGreatAaz
set_option maxRecDepth 16000
set_option maxHeartbeats 8000000
set_option linter.all false
namespace Go.Proofs.YtjbokbikkcfjjaaGreat
namespace Raft
variable {H : Yt} {i : Nat} {n : Nd} {l : List En}
theorem Vy {l : List En} {e x : En} {j : Nat} (h : (l ++ [e])[j]? = some x) : l[j]? = some x ∨ (j = l.length ∧ x = e) := by
 rcases Nat.lt_or_ge j l.length with hj | hj
 ·rw [List.getElem?_append_left hj] at h; exact .inl h
 ·rw [List.getElem?_append_right hj] at h
  have hj0 : j - l.length = 0 := by
   rcases Nat.eq_zero_or_pos (j - l.length) with h1 | h1
   ·exact h1
   ·rw [List.getElem?_eq_none (by simp only [List.length_singleton]; omega)] at h; cases h
  rw [hj0] at h
  have hx : e = x := by simpa using h
  exact .inr ⟨by omega, hx.symm⟩
theorem If {l x : List En} {b : Nat} (hb : b ≤ l.length) : tAt (l ++ x) b = tAt l b := ((AG.refl hb).appL).tAt
theorem OJ (F : QC H) (h : NI H i n l) (hi : i < 5) (hr : n.role = 1) (hs : ∃ s : Nat, s < 32 ∧ XK (QA n).2 s = true ∧ ∀ j, j < 5 → s.testBit j = true → H.vote n.term j i) :
  ∃ H' l', X3 1 i H H' ∧ QC H' ∧ NI H' i (Xy n) l' ∧ LI H' i (Xy n) l' := by
 obtain ⟨hCL, hnl, hvi, _⟩ := h.cand hr
 have hel : Uq H n.term i := by
  obtain ⟨s, h1, h2, h3⟩ := hs
  exact ⟨s, h1, by rw [← hCL, ← h.conf]; exact h2, h3⟩
 have hn : ¬ H.led n.term := fun hl => hnl ⟨hl, Ke F (F.wins hl) hel⟩
 have hT := F.vpos _ _ _ hvi
 let e : En := ⟨n.term, 0, []⟩
 have F1 := OK F hn hel hi hT (e := e) rfl rfl
 have E1 := Vn (i := i) (e := e) hn
 have hLL : (H.begin n.term i e).LL n.term = l ++ [e] := by rw [hCL]; exact if_pos rfl
 have hlen1 : (l ++ [e]).length = l.length + 1 := by simp
 have F2 := UZ (v := i) (k := l.length + 1) F1 (T := n.term) (.inr rfl) (by rw [hLL, hlen1]; exact Nat.le_refl _) (fun t c hc => h.votel t c hc)
 have E2 := J8 (H := H.begin n.term i e) (T := n.term) (v := i) (k := l.length + 1)
 have hD := (RT (i := i) (e := e) F hn).trans (VU (T := n.term) (k := l.length + 1) (i := i) F1)
 have E := E1.trans E2
 generalize hH : (H.begin n.term i e).agree n.term i (l.length + 1) = H2 at *
 have hled2 : H2.led n.term := by rw [← hH]; exact .inr rfl
 have hld2 : H2.ld n.term = i := by rw [← hH]; exact if_pos rfl
 have hLL2 : H2.LL n.term = l ++ [e] := by rw [← hH]; exact hLL
 have hack2 : ∀ k, k ≤ l.length + 1 → H2.ack n.term i k := fun k hk => by rw [← hH]; exact .inr ⟨rfl, rfl, hk⟩
 have hackI : ∀ S k, H2.ack S i k → H.ack S i k ∨ (S = n.term ∧ k ≤ l.length + 1) := by
  intro S k hk
  rw [← hH] at hk
  rcases hk with hk | ⟨h1, _, h2⟩
  ·exact .inl hk
  ·exact .inr ⟨h1, h2⟩
 have hvI : ∀ T v c, H2.vote T v c ↔ H.vote T v c := by intro T v c; rw [← hH]; exact Iff.rfl
 have hlb := F.lbd
 have hll := XD.len F h.cons
 have hbd2 : H2.bd = H.bd + 1 := by rw [← hH]; rfl
 obtain ⟨b, hb, hbl, hlog, hbt, hbc⟩ := h.base
 obtain ⟨c, hc, hbc', hcl, hK⟩ := h.com
 have hlen : n.log.length = l.length - b := by rw [hlog, List.length_drop]
 have hnext : n.base + (n.log.length + 1) = ((l.length + 1 : Nat) : Int) := by omega
 have hidn : n.id.toNat = i := by rw [h.id]; rfl
 have hmt : ∀ j, j < 5 → (Yz n).mtch.get j = if j = i then ((l.length + 1 : Nat) : Int) else 0 := fun j hj => by
  simp only [Yz, hidn, hnext]
  rw [UQ _ hi hj, F5.get_all]
 have hnx : ∀ j, (Yz n).next.get j = ((l.length + 1 : Nat) : Int) := fun j => by simp only [Yz, hnext, F5.get_all]
 have L2 : LI H2 i (Yz n) (l ++ [e]) := by
  refine ⟨hled2, hld2, hLL2.symm, fun j hj => ?_, fun j hj => ?_⟩
  ·rw [hmt j hj, hlen1]
   split
   ·rename_i hji
    subst hji
    exact ⟨by omega, by omega, fun k _ hk => hack2 k (by omega)⟩
   ·exact ⟨by omega, by omega, fun k h1 h2 => by omega⟩
  ·rw [hnx, hlen1]; omega
 have N2 : NI H2 i (Yz n) (l ++ [e]) := by
  refine { id := h.id, t0 := h.t0, t1 := h.t1, base := ?_, com := ?_, cons := ?_, terms := ?_, votel := ?_, vote := ?_, stood := ?_, votes0 := h.votes0, votes1 := h.votes1, sz := ?_, cand := ?_, lead := fun _ => L2, acks := ?_ }
  ·refine ⟨b, hb, by rw [hlen1]; omega, ?_, ?_, ?_⟩
   ·show n.log ++ [e] = _
    rw [hlog, List.drop_append_of_le_length hbl]
   ·rw [If hbl]; exact hbt
   ·rw [List.take_append_of_le_length hbl, E.c0]; exact hbc
  ·exact ⟨c, hc, hbc', by rw [hlen1]; omega, (hK.ext F E).to ((AG.refl hcl).appR)⟩
  ·rw [← hLL2]; exact F2.cons _ hled2
  ·intro j x hx
   rcases Vy hx with hx | ⟨_, rfl⟩
   ·exact h.terms j x hx
   ·exact Int.le_refl _
  ·intro T c hc; exact h.votel T c ((hvI _ _ _).1 hc)
  ·intro c; rw [show (Yz n).term = n.term from rfl, hvI]; exact h.vote c
  ·intro T v hv; exact h.stood T v ((hvI _ _ _).1 hv)
  ·intro j hj
   rw [hmt j hj, hnx, hbd2]
   split <;> omega
  ·intro hr; simp [Yz] at hr
  ·intro S k hk
   rcases hackI S k hk with hk | ⟨rfl, hk2⟩
   ·obtain ⟨h1, h2⟩ := h.acks S k hk
    obtain ⟨h5, h6⟩ := F.ackl _ _ _ hk
    refine ⟨h1, ?_⟩
    rcases h2 with h2 | ⟨t, h2, h3, h4, h7⟩
    ·exact .inl (E.agLL h5 h2).appR
    ·exact .inr ⟨t, h2, h3, E.led _ h4, by rw [E.CLld F h4]; exact E.nagLL h5 h6 h7⟩
   ·refine ⟨Int.le_refl _, .inl ?_⟩
    rw [hLL2]
    exact AG.refl (by rw [hlen1]; exact hk2)
 obtain ⟨H3, h1, h2, h3, h4⟩ := WX F2 N2 L2
 exact ⟨H3, l ++ [e], by simpa using hD.trans h1, h2, h3, h4⟩
theorem A3 (F : QC H) (h : NI H i n l) (L : LI H i n l) (hi : i < 5) (e : En) (h0 : 0 ≤ e.conf) (h1 : e.conf ≤ 31)
  (hch : e.conf ≠ 0 → MX (Q0 H.c0 l) e.conf ∧ ∃ c n', H.cmt n.term c n' ∧ n' ≤ l.length ∧ ∀ j e', l[j]? = some e' → e'.conf ≠ 0 → j < c) :
  ∃ H' l', X3 1 i H H' ∧ QC H' ∧ NI H' i (UA n e) l' ∧ LI H' i (UA n e) l' := by
 let e' : En := ⟨n.term, e.conf, e.cmd⟩
 have F1 : QC (H.put n.term e') := CG F L.led rfl h0 h1 (by rw [← L.log]; exact hch)
 have E1 := Lw (H := H) (T := n.term) (e := e')
 have hLL : (H.put n.term e').LL n.term = l ++ [e'] := by rw [L.log]; exact if_pos rfl
 have hlen1 : (l ++ [e']).length = l.length + 1 := by simp
 have F2 := UZ (v := i) (k := l.length + 1) F1 (T := n.term) L.led (by rw [hLL, hlen1]; exact Nat.le_refl _) (fun t c hc => h.votel t c hc)
 have E2 := J8 (H := H.put n.term e') (T := n.term) (v := i) (k := l.length + 1)
 have hD := (A5 (i := i) (e := e') F L.ld).trans (VU (T := n.term) (k := l.length + 1) (i := i) F1)
 have E := E1.trans E2
 generalize hH : (H.put n.term e').agree n.term i (l.length + 1) = H2 at *
 have hled2 : H2.led n.term := by rw [← hH]; exact L.led
 have hld2 : H2.ld n.term = i := by rw [← hH]; exact L.ld
 have hLL2 : H2.LL n.term = l ++ [e'] := by rw [← hH]; exact hLL
 have hack2 : ∀ k, k ≤ l.length + 1 → H2.ack n.term i k := fun k hk => by rw [← hH]; exact .inr ⟨rfl, rfl, hk⟩
 have hackI : ∀ S k, H2.ack S i k → H.ack S i k ∨ (S = n.term ∧ k ≤ l.length + 1) := by
  intro S k hk
  rw [← hH] at hk
  rcases hk with hk | ⟨h1, _, h2⟩
  ·exact .inl hk
  ·exact .inr ⟨h1, h2⟩
 have hackM : ∀ S v k, H.ack S v k → H2.ack S v k := E.ack
 have hvI : ∀ T v c, H2.vote T v c ↔ H.vote T v c := by intro T v c; rw [← hH]; exact Iff.rfl
 have hll := XD.len F h.cons
 have hbd2 : H2.bd = H.bd + 1 := by rw [← hH]; rfl
 obtain ⟨b, hb, hbl, hlog, hbt, hbc⟩ := h.base
 obtain ⟨c, hc, hbc', hcl, hK⟩ := h.com
 have hlen : n.log.length = l.length - b := by rw [hlog, List.length_drop]
 have hnext : n.base + (n.log.length + 1) = ((l.length + 1 : Nat) : Int) := by omega
 have hidn : n.id.toNat = i := by rw [h.id]; rfl
 have hmt : ∀ j, j < 5 → (JG n e).mtch.get j = if j = i then ((l.length + 1 : Nat) : Int) else n.mtch.get j := fun j hj => by
  simp only [JG, hidn, hnext]
  rw [UQ _ hi hj]
 have L2 : LI H2 i (JG n e) (l ++ [e']) := by
  refine ⟨hled2, hld2, hLL2.symm, fun j hj => ?_, fun j hj => ?_⟩
  ·rw [hmt j hj, hlen1]
   obtain ⟨g1, g2, g3⟩ := L.mt j hj
   split
   ·rename_i hji
    subst hji
    exact ⟨by omega, by omega, fun k _ hk => hack2 k (by omega)⟩
   ·exact ⟨g1, by omega, fun k h1 h2 => hackM _ _ _ (g3 k h1 h2)⟩
  ·have := L.nx j hj
   have e2 : (JG n e).next.get j = n.next.get j := rfl
   rw [hlen1, e2]
   omega
 have N2 : NI H2 i (JG n e) (l ++ [e']) := by
  refine { id := h.id, t0 := h.t0, t1 := h.t1, base := ?_, com := ?_, cons := ?_, terms := ?_, votel := ?_, vote := ?_, stood := ?_, votes0 := h.votes0, votes1 := h.votes1, sz := ?_, cand := ?_, lead := fun _ => L2, acks := ?_ }
  ·refine ⟨b, hb, by rw [hlen1]; omega, ?_, ?_, ?_⟩
   ·show n.log ++ [e'] = _
    rw [hlog, List.drop_append_of_le_length hbl]
   ·rw [If hbl]; exact hbt
   ·rw [List.take_append_of_le_length hbl, E.c0]; exact hbc
  ·exact ⟨c, hc, hbc', by rw [hlen1]; omega, (hK.ext F E).to ((AG.refl hcl).appR)⟩
  ·rw [← hLL2]; exact F2.cons _ hled2
  ·intro j x hx
   rcases Vy hx with hx | ⟨_, rfl⟩
   ·exact h.terms j x hx
   ·exact Int.le_refl _
  ·intro T c hc; exact h.votel T c ((hvI _ _ _).1 hc)
  ·intro c; rw [show (JG n e).term = n.term from rfl, hvI]; exact h.vote c
  ·intro T v hv; exact h.stood T v ((hvI _ _ _).1 hv)
  ·intro j hj
   have := h.sz j hj
   have e2 : (JG n e).next.get j = n.next.get j := rfl
   rw [hmt j hj, hbd2, e2]
   split <;> omega
  ·intro hr
   obtain ⟨_, h2, _⟩ := h.cand hr
   exact absurd ⟨L.led, L.ld⟩ h2
  ·intro S k hk
   rcases hackI S k hk with hk | ⟨rfl, hk2⟩
   ·obtain ⟨h1, h2⟩ := h.acks S k hk
    obtain ⟨h5, h6⟩ := F.ackl _ _ _ hk
    refine ⟨h1, ?_⟩
    rcases h2 with h2 | ⟨t, h2, h3, h4, h7⟩
    ·exact .inl (E.agLL h5 h2).appR
    ·exact .inr ⟨t, h2, h3, E.led _ h4, by rw [E.CLld F h4]; exact E.nagLL h5 h6 h7⟩
   ·refine ⟨Int.le_refl _, .inl ?_⟩
    rw [hLL2]
    exact AG.refl (by rw [hlen1]; exact hk2)
 obtain ⟨H3, h1, h2, h3, h4⟩ := WX F2 N2 L2
 exact ⟨H3, l ++ [e'], by simpa using hD.trans h1, h2, h3, h4⟩
theorem NI.tell (F : QC H) (h : NI H i n l) (hr : n.role = 2) {nx mt : F5} (hn : ∀ j, j < 5 → 1 ≤ nx.get j ∧ nx.get j ≤ l.length + 1) (hm : ∀ j, j < 5 → 0 ≤ mt.get j ∧ mt.get j ≤ l.length ∧ ∀ k : Nat, 0 < k → (k : Int) ≤ mt.get j → H.ack n.term j k) :
  NI H i { n with next := nx, mtch := mt } l ∧ LI H i { n with next := nx, mtch := mt } l := by
 have L := h.lead hr
 have L' : LI H i { n with next := nx, mtch := mt } l := ⟨L.led, L.ld, L.log, hm, hn⟩
 have hlb := XD.len F h.cons
 refine ⟨⟨h.id, h.t0, h.t1, h.base, h.com, h.cons, h.terms, h.votel, h.vote, h.stood, h.votes0, h.votes1, fun j hj => ?_, (fun hr' => by simp only at hr'; omega), fun _ => L', h.acks⟩, L'⟩
 have := hn j hj
 have := hm j hj
 simp only
 omega
theorem NQ (F : QC H) (h : NI H i n l) (hr : n.role = 2) {m : Ms} (M : MI H m) (hk : m.kind = 4) (hy : m.yes = true) (hT : m.term = n.term) : NI H i (JK n m) l ∧ LI H i (JK n m) l := by
 have L := h.lead hr
 obtain ⟨f, hf, hmf⟩ := M.frm
 obtain ⟨k, hidx, hack⟩ := M.k4 hk hy
 have hft : m.frm.toNat = f := by rw [hmf]; rfl
 have hkl : k ≤ l.length := by
  rcases Nat.eq_zero_or_pos k with h0 | h0
  ·omega
  ·have := (F.ackl _ _ _ (hack f hmf k h0 (Nat.le_refl _))).2
   rw [hT, ← L.log] at this; exact this
 have hmx := L.mt f hf
 refine h.tell F hr (fun j hj => ?_) (fun j hj => ?_)
 ·rw [hft, UQ _ hf hj]
  have := L.nx j hj
  split <;> omega
 ·rw [hft, UQ _ hf hj]
  split
  ·rename_i hjf
   subst hjf
   refine ⟨by omega, by omega, fun q h1 h2 => ?_⟩
   rcases Int.le_total m.index (n.mtch.get j) with h3 | h3
   ·exact hmx.2.2 q h1 (by omega)
   ·rw [← hT]
    exact hack j hmf q h1 (by omega)
  ·exact L.mt j hj
theorem Hu (F : QC H) (h : NI H i n l) (hr : n.role = 2) {m : Ms} (M : MI H m) : NI H i (YF n m) l ∧ LI H i (YF n m) l := by
 have L := h.lead hr
 obtain ⟨f, hf, hmf⟩ := M.frm
 have hft : m.frm.toNat = f := by rw [hmf]; rfl
 refine h.tell F hr (fun j hj => ?_) L.mt
 rw [hft, UQ _ hf hj]
 have := L.nx j hj
 have := L.nx f hf
 have := L.mt f hf
 split <;> omega
theorem TQ (F : QC H) (h : NI H i n l) (hi : i < 5) {m : Ms} (M : MI H m) (hk : m.kind = 4) : ∃ H', X3 0 i H H' ∧ QC H' ∧ NI H' i (X5 n m).1 l ∧ ∀ x ∈ (X5 n m).2, MI H' x := by
 unfold X5
 split
 ·exact ⟨H, X3.refl i H, F, h, fun x hx => by cases hx⟩
 ·rename_i hc
  have hT : m.term = n.term := Classical.byContradiction fun h1 => hc (.inl h1)
  have hr : n.role = 2 := Classical.byContradiction fun h1 => hc (.inr h1)
  split
  ·rename_i hy
   obtain ⟨h1, h2⟩ := NQ F h hr M hk hy hT
   obtain ⟨H', h3, h4, h5, _⟩ := WX F h1 h2
   exact ⟨H', h3, h4, h5, fun x hx => by cases hx⟩
  ·obtain ⟨h1, h2⟩ := Hu F h hr M
   split
   ·refine ⟨H, X3.refl i H, F, h1, fun x hx => ?_⟩
    rw [List.mem_singleton.1 hx]
    obtain ⟨f, hf, hmf⟩ := M.frm
    rw [hmf]
    exact To F h1 h2 hi hf
   ·exact ⟨H, X3.refl i H, F, h1, fun x hx => by cases hx⟩
theorem NI.adopt (F : QC H) (h : NI H i n l) (hr : n.role = 0) (hled : H.led n.term) {l' : List En} (hl' : l' = l ∨ ∃ q, l' = (H.LL n.term).take q) (hx : ∀ x, AG l (H.LL n.term) x → AG l' (H.LL n.term) x) :
  NI H i { n with log := l'.drop n.base.toNat } l' := by
 obtain ⟨b, hb, hbl, hlog, hbt, hbc⟩ := h.base
 obtain ⟨c, hc, hbc', hcl, hK⟩ := h.com
 have hKP := YU.ag F hled hK
 have hKl : AG l' (H.LL n.term) c := hx c hKP.symm
 have hll : AG l l' c := hKP.symm.trans hKl.symm
 have hbn : n.base.toNat = b := by omega
 refine { id := h.id, t0 := h.t0, t1 := h.t1, base := ?_, com := ?_, cons := ?_, terms := ?_, votel := h.votel, vote := h.vote, stood := h.stood, votes0 := h.votes0, votes1 := h.votes1, sz := h.sz, cand := (fun hr' => by simp only at hr'; omega), lead := (fun hr' => by simp only at hr'; omega), acks := ?_ }
 ·refine ⟨b, hb, by have := hll.2.1; omega, by rw [← hbn], ?_, ?_⟩
  ·rw [← (hll.le (show b ≤ c by omega)).tAt]; exact hbt
  ·rw [← (hll.le (show b ≤ c by omega)).2.2]; exact hbc
 ·exact ⟨c, hc, hbc', hKl.1, hK.to hll⟩
 ·rcases hl' with h1 | ⟨q, h1⟩
  ·rw [h1]; exact h.cons
  ·rw [h1]; exact (F.cons _ hled).take q
 ·intro j e he
  rcases hl' with h1 | ⟨q, h1⟩
  ·rw [h1] at he; exact h.terms j e he
  ·rw [h1, List.getElem?_take] at he
   split at he
   ·by_cases hj : j < H.EL n.term
    ·have := F.old _ j e hled he hj; simp only; omega
    ·have := F.own _ j e hled he (by omega); simp only; omega
   ·cases he
 ·intro S k hk
  obtain ⟨h1, h2⟩ := h.acks S k hk
  refine ⟨h1, ?_⟩
  rcases h2 with h2 | h2
  ·by_cases hP : AG (H.LL S) (H.LL n.term) k
   ·exact .inl (hP.trans (hx k (h2.symm.trans hP)).symm)
   ·have hS : S < n.term := by
     rcases Int.lt_or_eq_of_le h1 with h3 | h3
     ·exact h3
     ·rw [h3] at hP h2
      exact absurd (AG.refl h2.1) hP
    refine .inr ⟨n.term, hS, Int.le_refl _, hled, fun hcl => hP ?_⟩
    have h6 := F.cl _ hled
    exact hcl.trans (h6.1.le (by have := hcl.2.1; omega))
  ·exact .inr h2
theorem NI.reb (h : NI H i n l) {x c : Nat} {s : List UInt8} (hxc : x ≤ c) (hcl : c ≤ l.length) (hK : YU H n.term l c) :
  NI H i { n with base := x, baseTerm := tAt l x, baseConf := Q0 H.c0 (l.take x), snap := s, log := l.drop x, commit := c } l :=
 ⟨h.id, h.t0, h.t1, ⟨x, rfl, Nat.le_trans hxc hcl, rfl, rfl, rfl⟩, ⟨c, rfl, by simp only; omega, hcl, hK⟩, h.cons, h.terms, h.votel, h.vote, h.stood, h.votes0, h.votes1, h.sz, h.cand, fun hr => by
  have := h.lead hr
  exact ⟨this.led, this.ld, this.log, this.mt, this.nx⟩, h.acks⟩
theorem D4 (F : QC H) (h : NI H i n l) (hi : i < 5) (hled : H.led n.term) {k : Nat} (hk : AG (H.LL n.term) l k) {to : Int} (hto : ∃ f : Nat, f < 5 ∧ to = f) {idx : Int} (hx : idx = (k : Nat)) :
  ∃ H', X3 0 i H H' ∧ QC H' ∧ NI H' i n l ∧ MI H' (QW n to (YD true idx)) := by
 have F' := UZ (v := i) F hled hk.1 (fun t c hc => h.votel t c hc)
 refine ⟨H.agree n.term i k, VU F, F', ?_, ?_⟩
 ·refine h.ext F J8 (fun _ _ h => h) (fun _ v h => ⟨v, h⟩) (fun _ h _ => h) ?_ (fun _ _ _ => rfl)
  rintro S x (hh | ⟨rfl, _, hh⟩)
  ·exact .inl hh
  ·exact .inr ⟨Int.le_refl _, hk.le hh⟩
 ·have := F.lbd _ hled
  have h3 := hk.1
  refine Wh h.id hi hto (by omega) (by show idx ≤ (H.bd : Nat); omega) (fun _ => ⟨k, hx, fun j _ hj => .inr ⟨rfl, rfl, hj⟩⟩)
theorem GY (F : QC H) (h : NI H i n l) {m : Ms} {P : List En} (hP : XD H P) {b k : Nat} (hb : n.base = b) (hbk : b ≤ k) (hidx : m.index = k) (hlog : n.log = l.drop b) (h0 : AG l P k) (hes : m.entries = (P.drop k).take m.entries.length) (hle : k + m.entries.length ≤ P.length) :
  ∀ j, j ≤ m.entries.length → (Xf n m j = l.drop b ∧ AG l P (k + j)) ∨ (Xf n m j = (P.take (k + j)).drop b ∧ ∃ y, y < k + j ∧ ∀ x, AG l P x → x ≤ y)
 | 0, _ => .inl ⟨hlog, h0⟩
 | j + 1, hj => by
  have hPl : k + j < P.length := by omega
  have hPj : P[k + j]? = some P[k + j] := List.getElem?_eq_getElem hPl
  have hej : m.entries.getD j default = P[k + j] := by
   rw [hes, List.getD_eq_getElem?_getD, List.getElem?_take, if_pos (by omega), List.getElem?_drop, hPj]; rfl
  have hi1 : m.index - n.base + j = ((k - b + j : Nat) : Int) := by omega
  rw [Xf, hej, hi1, Int.toNat_natCast]
  rcases GY F h hP hb hbk hidx hlog h0 hes hle j (by omega) with ⟨h1, h2⟩ | ⟨h1, y, h2, h3⟩
  ·rw [h1]
   have hdl : (l.drop b).length = l.length - b := List.length_drop
   have hkl := h2.1
   by_cases hc : ((k - b + j : Nat) : Int) < ((l.drop b).length : Nat) ∧ ((l.drop b).getD (k - b + j) default).term = P[k + j].term
   ·rw [if_pos hc]
    have hlj : k + j < l.length := by omega
    have hl2 : l[k + j]? = some l[k + j] := List.getElem?_eq_getElem hlj
    refine .inl ⟨rfl, ?_⟩
    refine XD.ag h.cons hP hl2 hPj ?_
    have := hc.2
    rw [List.getD_eq_getElem?_getD, List.getElem?_drop, show b + (k - b + j) = k + j by omega, hl2] at this
    exact this
   ·rw [if_neg hc]
    have hmin : (min ((k - b + j : Nat) : Int) ((l.drop b).length : Nat)).toNat = k - b + j := by omega
    refine .inr ⟨?_, k + j, by omega, fun x hx => ?_⟩
    ·rw [hmin, ← Nat.add_assoc, List.take_succ_eq_append_getElem hPl, List.drop_append_of_le_length (by rw [List.length_take]; omega), ← h2.2.2, List.drop_take, show k + j - b = k - b + j by omega]
    ·refine Nat.le_of_not_lt fun hlt => hc ?_
     have h5 := hx.get hlt
     have hlj : k + j < l.length := by have := hx.1; omega
     have hl2 : l[k + j]? = some l[k + j] := List.getElem?_eq_getElem hlj
     refine ⟨by omega, ?_⟩
     rw [List.getD_eq_getElem?_getD, List.getElem?_drop, show b + (k - b + j) = k + j by omega, h5, hPj]; rfl
  ·rw [h1]
   have hdl : ((P.take (k + j)).drop b).length = k - b + j := by rw [List.length_drop, List.length_take]; omega
   rw [if_neg (by rw [hdl]; omega)]
   refine .inr ⟨?_, y, by omega, h3⟩
   rw [hdl, Int.min_self, Int.toNat_natCast, List.take_of_length_le (by omega), ← Nat.add_assoc, List.take_succ_eq_append_getElem hPl, List.drop_append_of_le_length (by rw [List.length_take]; omega)]
theorem KS (F : QC H) (h : NI H i n l) (hi : i < 5) {m : Ms} (M : MI H m) (hk : m.kind = 3) (hT : m.term ≤ n.term) : ∃ H' l', X3 0 i H H' ∧ QC H' ∧ NI H' i (Jt n m).1 l' ∧ ∀ x ∈ (Jt n m).2, MI H' x := by
 obtain ⟨hled, _, k, c, hidx, hcm, hle, hes, hlt, hK⟩ := M.k3 hk
 unfold Jt
 split
 ·refine ⟨H, l, X3.refl i H, F, h, fun x hx => ?_⟩
  rw [List.mem_singleton.1 hx]
  exact Wh h.id hi M.frm (by omega) (by omega) (fun h => by cases h)
 rename_i hlow
 have hTe : m.term = n.term := by omega
 rw [hTe] at hled hle hes hlt hK
 have hq : NI H i (QU n) l := h.quiet (w := 0)
 obtain ⟨b, hb, hbl, hlog, hbt, hbc⟩ := h.base
 obtain ⟨c0, hc0, hbc0, hcl0, hK0⟩ := h.com
 have hKP := YU.ag F hled hK0
 split
 ·obtain ⟨H', h1, h2, h3, h4⟩ := D4 F hq hi hled (k := b) (hKP.le (by omega)) (to := m.frm) M.frm (idx := n.base) hb
  exact ⟨H', l, h1, h2, h3, fun x hx => by rw [List.mem_singleton.1 hx]; exact h4⟩
 rename_i hbk
 have hlast := h.last
 split
 ·refine ⟨H, l, X3.refl i H, F, hq, fun x hx => ?_⟩
  rw [List.mem_singleton.1 hx]
  have := XD.len F h.cons
  exact Wh hq.id hi M.frm (by omega) (by omega) (fun h => by cases h)
 rename_i hc
 have hkl : k ≤ l.length := by omega
 have htk : Go.Proofs.YtjbokbikkcfjjaaGreat.termF n m.index = m.logTerm := Classical.byContradiction fun h1 => hc (.inr h1)
 rw [hidx, h.termF (by omega) hkl, hlt] at htk
 have hPc := F.cons _ hled
 have h0 : AG l (H.LL n.term) k := XD.agT h.cons hPc hkl (by omega) htk
 have hsp := GY F h hPc hb (by omega) hidx hlog h0 hes hle m.entries.length (Nat.le_refl _)
 have hbn : n.base.toNat = b := by omega
 have key : ∃ l', Xf n m m.entries.length = l'.drop b ∧ AG (H.LL n.term) l' (k + m.entries.length) ∧ NI H i { QU n with log := l'.drop b } l' := by
  rcases hsp with ⟨h1, h2⟩ | ⟨h1, y, h2, h3⟩
  ·refine ⟨l, h1, h2.symm, ?_⟩
   have := hq.adopt F rfl hled (l' := l) (.inl rfl) (fun x hx => hx)
   rwa [show (QU n).base.toNat = b from hbn] at this
  ·refine ⟨(H.LL n.term).take (k + m.entries.length), h1, AG.takeSelf hle, ?_⟩
   have := hq.adopt F rfl hled (l' := (H.LL n.term).take (k + m.entries.length)) (.inr ⟨_, rfl⟩) (fun x hx => ?_)
   ·rwa [show (QU n).base.toNat = b from hbn] at this
   ·have h4 := h3 x hx
    exact ((AG.refl hx.2.1).take (q := k + m.entries.length) (by omega)).symm
 obtain ⟨l', h1, h2, h3⟩ := key
 have hc' : ∃ c1 : Nat, (max n.commit (min m.commit (m.index + m.entries.length)) : Int) = c1 ∧ b ≤ c1 ∧ c1 ≤ l'.length ∧ YU H n.term l' c1 := by
  obtain ⟨c2, g1, g2, g3, g4⟩ := h3.com
  have g1' : n.commit = (c2 : Nat) := g1
  have hl2 := h2.2.1
  rcases Int.le_total n.commit (min m.commit (m.index + m.entries.length)) with h5 | h5
  ·refine ⟨min c (k + m.entries.length), by omega, by omega, by omega, ?_⟩
   exact (hK.le (Nat.min_le_left _ _)).to (h2.le (Nat.min_le_right _ _))
  ·exact ⟨c2, by omega, by omega, g3, g4⟩
 obtain ⟨c1, g1, g2, g3, g4⟩ := hc'
 have hN : NI H i (RY n m) l' := by
  have := h3.to (c := c1) (by show n.base ≤ _; omega) g3 g4
  unfold RY
  rw [h1, g1]; exact this
 obtain ⟨H', e1, e2, e3, e4⟩ := D4 F hN hi hled (k := k + m.entries.length) h2 (to := m.frm) M.frm (idx := m.index + m.entries.length) (by omega)
 exact ⟨H', l', e1, e2, e3, fun x hx => by rw [List.mem_singleton.1 hx]; exact e4⟩
theorem Pa (F : QC H) (h : NI H i n l) (hi : i < 5) {m : Ms} (M : MI H m) (hk : m.kind = 5) (hT : m.term ≤ n.term) : ∃ H' l', X3 0 i H H' ∧ QC H' ∧ NI H' i (Zq n m).1 l' ∧ ∀ x ∈ (Zq n m).2, MI H' x := by
 obtain ⟨hled, _, k, hidx, hkP, hlt, hcf, hK⟩ := M.k5 hk
 unfold Zq
 split
 ·refine ⟨H, l, X3.refl i H, F, h, fun x hx => ?_⟩
  rw [List.mem_singleton.1 hx]
  exact Wh h.id hi M.frm (by omega) (by omega) (fun h => by cases h)
 rename_i hlow
 have hTe : m.term = n.term := by omega
 rw [hTe] at hled hkP hlt hcf hK
 have hq : NI H i (QU n) l := h.quiet (w := 0)
 obtain ⟨b, hb, hbl, hlog, hbt, hbc⟩ := h.base
 obtain ⟨c0, hc0, hbc0, hcl0, hK0⟩ := h.com
 have hKP := YU.ag F hled hK0
 have hPc := F.cons _ hled
 have hbn : n.base.toNat = b := by omega
 have hlast := h.last
 split
 ·rename_i hgt
  have key : ∃ l', ZQ n m = l'.drop k ∧ AG (H.LL n.term) l' k ∧ NI H i { QU n with log := l'.drop b } l' := by
   by_cases hc : (m.index ≤ Qq n ∧ n.base < m.index) ∧ Go.Proofs.YtjbokbikkcfjjaaGreat.termF n m.index = m.logTerm
   ·have hkl : k ≤ l.length := by omega
    have htk := hc.2
    rw [hidx, h.termF (by omega) hkl, hlt] at htk
    have h0 : AG l (H.LL n.term) k := XD.agT h.cons hPc hkl hkP htk
    refine ⟨l, ?_, h0.symm, ?_⟩
    ·rw [ZQ, if_pos hc, hlog, List.drop_drop, show b + (m.index - n.base).toNat = k by omega]
    ·have := hq.adopt F rfl hled (l' := l) (.inl rfl) (fun x hx => hx)
     rwa [show (QU n).base.toNat = b from hbn] at this
   ·refine ⟨(H.LL n.term).take k, ?_, AG.takeSelf hkP, ?_⟩
    ·rw [ZQ, if_neg hc, List.drop_eq_nil_of_le (by rw [List.length_take]; omega)]
    ·have := hq.adopt F rfl hled (l' := (H.LL n.term).take k) (.inr ⟨_, rfl⟩) (fun x hx => ?_)
     ·rwa [show (QU n).base.toNat = b from hbn] at this
     ·have hxk : x ≤ k := by
       refine Nat.le_of_not_lt fun hlt2 => hc ?_
       have h5 := hx.le (show k ≤ x by omega)
       have h6 := h5.1
       refine ⟨⟨by omega, by omega⟩, ?_⟩
       rw [hidx, h.termF (by omega) h6, h5.tAt, hlt]
       rfl
      exact ((AG.refl hx.2.1).take (q := k) hxk).symm
  obtain ⟨l', h1, h2, h3⟩ := key
  have hN : NI H i (Jd n m) l' := by
   have := h3.reb (x := k) (c := k) (s := m.snap) (Nat.le_refl _) h2.2.1 (hK.to h2)
   unfold Jd
   rw [h1, hidx, hlt, hcf, h2.tAt, h2.2.2]
   exact this
  obtain ⟨H', e1, e2, e3, e4⟩ := D4 F hN hi hled (k := k) h2 (to := m.frm) M.frm (idx := max m.index n.commit) (by omega)
  exact ⟨H', l', e1, e2, e3, fun x hx => by rw [List.mem_singleton.1 hx]; exact e4⟩
 ·rename_i hgt
  obtain ⟨H', e1, e2, e3, e4⟩ := D4 F hq hi hled (k := c0) hKP (to := m.frm) M.frm (idx := max m.index n.commit) (by omega)
  exact ⟨H', l, e1, e2, e3, fun x hx => by rw [List.mem_singleton.1 hx]; exact e4⟩
end Raft
namespace Raft
variable {H : Yt} {i : Nat} {n : Nd} {l : List En}
def M4 (k i : Nat) (H : Yt) (n' : Nd) (out : List Ms) : Prop := ∃ H' l', X3 k i H H' ∧ QC H' ∧ NI H' i n' l' ∧ ∀ x ∈ out, MI H' x
theorem X3.le {a b : Nat} {H' : Yt} (h : X3 a i H H') (hab : a ≤ b) : X3 b i H H' := ⟨h.ext, h.oth, by have := h.bd; omega⟩
theorem Kt : ∀ v : Fin 32, ∀ f : Fin 5, (orI v.val ((2 ^ f.val : Nat) : Int)).toNat < 32 ∧ ∀ j : Fin 5, (orI v.val ((2 ^ f.val : Nat) : Int)).toNat.testBit j.val = (v.val.testBit j.val || decide (j.val = f.val)) := by decide +kernel
theorem Gm (f : Nat) : (2 : Int) ^ f = ((2 ^ f : Nat) : Int) := by
 induction f with
 | zero => rfl
 | succ f ih => rw [Int.pow_succ, ih, Nat.pow_succ]; omega
theorem Cq (F : QC H) (h : NI H i n l) (hi : i < 5) (ht : n.term < 1073741824) : M4 1 i H (Yl n).1 (Yl n).2 := by
 obtain ⟨H1, h1, h2, h3, h4, h5⟩ := AA F h hi ht
 have hidn : n.id.toNat = i := by rw [h.id]; rfl
 unfold Yl
 split
 ·rename_i hm
  rw [hidn, Gm] at hm
  have hlt : 2 ^ i < 32 := by
   have : 2 ^ i < 2 ^ 5 := Nat.pow_lt_pow_right (by decide) hi
   simpa using this
  obtain ⟨H2, l', g1, g2, g3, g4⟩ := OJ h2 h3 hi rfl ⟨2 ^ i, hlt, hm, h5⟩
  exact ⟨H2, l', by simpa using h1.trans g1, g2, g3, El g2 g3 g4 hi⟩
 ·refine ⟨H1, l, h1.le (by decide), h2, h3, fun x hx => ?_⟩
  obtain ⟨to, hto, rfl⟩ := Z2 (n := Qy n) (F := fun to => QW (Qy n) to (Vt (Qq n) (termF n (Qq n)))) (k := 5) hx
  exact h4 to hto
theorem Aq (F : QC H) (h : NI H i n l) (hi : i < 5) : M4 1 i H (Xi n).1 (Xi n).2 := by
 unfold Xi
 split
 ·rename_i hr
  exact ⟨H, l, (X3.refl i H).le (by decide), F, h, El F h (h.lead hr) hi⟩
 ·split
  ·exact ⟨H, l, (X3.refl i H).le (by decide), F, h, fun x hx => by cases hx⟩
  ·split
   ·rename_i hc
    exact Cq F (h.still (w := n.wait + 1)) hi hc.2
   ·exact ⟨H, l, (X3.refl i H).le (by decide), F, h.still (w := n.wait + 1), fun x hx => by cases hx⟩
theorem Ci (F : QC H) (h : NI H i n l) (hi : i < 5) {m : Ms} (M : MI H m) (hk : m.kind = 2) (hto : m.to = n.id) : M4 1 i H (Yi n m).1 (Yi n m).2 := by
 unfold Yi
 split
 ·exact ⟨H, l, (X3.refl i H).le (by decide), F, h, fun x hx => by cases hx⟩
 ·rename_i hc
  have hT : m.term = n.term := Classical.byContradiction fun h1 => hc (.inl (.inl h1))
  have hr : n.role = 1 := Classical.byContradiction fun h1 => hc (.inl (.inr h1))
  have hy : m.yes = true := Classical.byContradiction fun h1 => hc (.inr h1)
  obtain ⟨f, hf, hmf⟩ := M.frm
  have hv := M.k2 hk hy f i hmf (by rw [hto, h.id])
  rw [hT] at hv
  have hft : m.frm.toNat = f := by rw [hmf]; rfl
  have hv0 := h.votes0
  have hv1 := h.votes1
  obtain ⟨v, hvv⟩ : ∃ v : Nat, n.votes = v := ⟨n.votes.toNat, by omega⟩
  have hob := Kt ⟨v, by omega⟩ ⟨f, hf⟩
  simp only at hob
  obtain ⟨hcl, hcn, hci, hcb⟩ := h.cand hr
  have hor : orI n.votes (2 ^ m.frm.toNat) = ((orI v ((2 ^ f : Nat) : Int)).toNat : Int) := by
   rw [hft, Gm, hvv]
   have : 0 ≤ orI v ((2 ^ f : Nat) : Int) := by unfold orI; omega
   omega
  have hvs : ∀ j, j < 5 → (orI v ((2 ^ f : Nat) : Int)).toNat.testBit j = true → H.vote n.term j i := fun j hj hb => by
   rw [hob.2 ⟨j, hj⟩, Bool.or_eq_true] at hb
   rcases hb with hb | hb
   ·exact hcb j hj (by rw [hvv, Int.toNat_natCast]; exact hb)
   ·have hjf : j = f := of_decide_eq_true hb
    rw [hjf]; exact hv
  have hN : NI H i (X6 n m) l := by
   refine ⟨h.id, h.t0, h.t1, h.base, h.com, h.cons, h.terms, h.votel, h.vote, h.stood, ?_, ?_, h.sz, fun hr' => ⟨hcl, hcn, hci, fun j hj hb => ?_⟩, fun hr' => ?_, h.acks⟩
   ·simp only [X6, hor]; omega
   ·simp only [X6, hor]; have := hob.1; omega
   ·simp only [X6, hor, Int.toNat_natCast] at hb
    exact hvs j hj hb
   ·simp only [X6] at hr'; omega
  split
  ·rename_i hm
   rw [hor] at hm
   obtain ⟨H2, l', g1, g2, g3, g4⟩ := OJ F hN hi hr ⟨_, hob.1, hm, hvs⟩
   exact ⟨H2, l', g1, g2, g3, El g2 g3 g4 hi⟩
  ·exact ⟨H, l, (X3.refl i H).le (by decide), F, hN, fun x hx => by cases hx⟩
theorem Aw (F : QC H) (h : NI H i n l) (hi : i < 5) {m : Ms} (M : MI H m) : M4 1 i H (Xd n m).1 (Xd n m).2 := by
 unfold Xd
 split
 ·exact ⟨H, l, (X3.refl i H).le (by decide), F, h, fun x hx => by cases hx⟩
 rename_i hb
 have hto : m.to = n.id := Classical.byContradiction fun h1 => hb (.inl (.inr h1))
 have hfi : m.frm ≠ n.id := fun h1 => hb (.inl (.inl (.inr h1)))
 have hk5 : ¬ (m.kind < 1 ∨ 5 < m.kind) := fun h1 => hb (.inr (.inl (.inl h1)))
 have ht : ¬ 1073741824 < m.term := fun h1 => hb (.inr (.inr h1))
 have hu : NI H i (upN n m) l := h.up (by omega)
 have huid : (upN n m).id = n.id := by rw [hu.id, h.id]
 have htm : m.term ≤ (upN n m).term := by rw [N1]; omega
 unfold WE
 split
 ·rename_i hk
  obtain ⟨H', h1, h2, h3, h4⟩ := NY F hu hi M hk (by rw [huid]; exact hfi)
  exact ⟨H', l, h1.le (by decide), h2, h3, fun x hx => by rw [List.mem_singleton.1 hx]; exact h4⟩
 split
 ·rename_i hk
  exact Ci F hu hi M hk (by rw [huid]; exact hto)
 split
 ·rename_i hk
  obtain ⟨H', l', h1, h2, h3, h4⟩ := KS F hu hi M hk htm
  exact ⟨H', l', h1.le (by decide), h2, h3, h4⟩
 split
 ·rename_i hk
  obtain ⟨H', h1, h2, h3, h4⟩ := TQ F hu hi M hk
  exact ⟨H', l, h1.le (by decide), h2, h3, h4⟩
 ·obtain ⟨H', l', h1, h2, h3, h4⟩ := Pa F hu hi M (by omega) htm
  exact ⟨H', l', h1.le (by decide), h2, h3, h4⟩
theorem A8 (F : QC H) (h : NI H i n l) (hi : i < 5) (cmd : List UInt8) : M4 1 i H (Xn n cmd).1 [] := by
 unfold Xn
 split
 ·exact ⟨H, l, (X3.refl i H).le (by decide), F, h, fun x hx => by cases hx⟩
 rename_i hr
 split
 ·exact ⟨H, l, (X3.refl i H).le (by decide), F, h, fun x hx => by cases hx⟩
 ·obtain ⟨H', l', h1, h2, h3, h4⟩ := A3 F h (h.lead (Classical.not_not.1 hr)) hi ⟨0, 0, cmd⟩ (by simp) (by simp) (by simp)
  exact ⟨H', l', h1, h2, h3, fun x hx => by cases hx⟩
theorem PN : ∀ c d : Fin 32, J3 (WG d.val c.val) = 1 → ∃ i : Fin 5, d.val = c.val ^^^ 2 ^ i.val := by decide +kernel
theorem RO (F : QC H) (h : NI H i n l) (hi : i < 5) (conf : Int) : M4 1 i H (QG n conf).1 [] := by
 unfold QG
 split
 ·exact ⟨H, l, (X3.refl i H).le (by decide), F, h, fun x hx => by cases hx⟩
 rename_i hr
 split
 ·exact ⟨H, l, (X3.refl i H).le (by decide), F, h, fun x hx => by cases hx⟩
 rename_i hc
 split
 ·exact ⟨H, l, (X3.refl i H).le (by decide), F, h, fun x hx => by cases hx⟩
 rename_i he
 have L := h.lead (Classical.not_not.1 hr)
 have hcb : 1 ≤ conf ∧ conf ≤ 31 := by omega
 have hone : J3 (WG conf (QA n).2) = 1 := Classical.byContradiction fun h1 => hc (.inr h1)
 have hat : (QA n).1 ≤ n.commit := by
  have := fun h1 => he (.inl h1)
  omega
 have htm : Go.Proofs.YtjbokbikkcfjjaaGreat.termF n n.commit = n.term := Classical.byContradiction fun h1 => he (.inr h1)
 obtain ⟨c, hcc, hbc, hcl, hK⟩ := h.com
 have hcr := F.conf l h.cons
 rw [h.conf] at hone
 rw [hcc, h.termF hbc hcl] at htm
 have hp := F.pos _ L.led
 obtain ⟨H', l', h1, h2, h3, h4⟩ := A3 F h L hi ⟨0, conf, []⟩ (by simp only; omega) (by simp only; omega) (fun _ => by
  refine ⟨⟨hcr.1, hcr.2, by simp only; omega, by simp only; omega, .inr ?_⟩, ?_⟩
  ·obtain ⟨x, hx⟩ : ∃ x : Nat, Q0 H.c0 l = x := ⟨(Q0 H.c0 l).toNat, by omega⟩
   obtain ⟨y, hy⟩ : ∃ y : Nat, conf = y := ⟨conf.toNat, by omega⟩
   rw [hx, hy] at hone
   obtain ⟨q, hq⟩ := PN ⟨x, by omega⟩ ⟨y, by omega⟩ hone
   refine ⟨q.val, q.isLt, ?_⟩
   rw [hx, hy]
   exact hq
  ·rcases hK with hK | ⟨S, k, n', g1, g2, g3, g4⟩
   ·rw [hK] at htm
    have : (0 : Int) = n.term := htm
    omega
   ·have hc0 : 0 < c := Nat.pos_of_ne_zero fun h0 => by
     rw [h0] at htm
     have : (0 : Int) = n.term := htm
     omega
    have g5 := F.com _ _ _ g1
    have hSl : ∃ e, (H.LL S)[c - 1]? = some e := ⟨(H.LL S)[c - 1]'(by have := g4.1; omega), List.getElem?_eq_getElem _⟩
    obtain ⟨e, he⟩ := hSl
    have het : e.term = n.term := by
     rw [← g4.tAt] at htm
     obtain ⟨c', rfl⟩ : ∃ c', c = c' + 1 := ⟨c - 1, by omega⟩
     simp only [Nat.add_sub_cancel] at he
     simp only [tAt, List.getD_eq_getElem?_getD, he, Option.getD_some] at htm
     exact htm
    have hS : S = n.term := by
     by_cases hlt : c - 1 < H.EL S
     ·have := F.old S _ e g5.1 he hlt; omega
     ·have := F.own S _ e g5.1 he (by omega); omega
    rw [hS] at g1 g5
    refine ⟨k, n', g1, by rw [L.log]; exact g5.2.2.2.1, fun j e' hj hcj => ?_⟩
    have := h.confAt hj hcj
    omega)
 exact ⟨H', l', h1, h2, h3, fun x hx => by cases hx⟩
theorem Ak (F : QC H) (h : NI H i n l) : M4 1 i H (QK n) [] := ⟨H, l, (X3.refl i H).le (by decide), F, h.wake, fun x hx => by cases hx⟩
end Raft
end Go.Proofs.YtjbokbikkcfjjaaGreat
namespace Go.Proofs.YtjbokbikkcfjjaaGreat
open Raft Go.Cap
structure GI (g : Gn) (E : List Ms) : Prop where
 ns : g.ns.length = 5
 aw : g.aw.length = 5
 h : ∃ (H : Yt) (L : Nat → List En), QC H ∧ (∀ i, i < 5 → NI H i (g.n i) (L i)) ∧ ∀ m, m ∈ g.way ∨ m ∈ E → MI H m
def MQ (g : Gn) (i : Nat) (x : Nd) (w : List Ms) : Gn := { g with ns := g.ns.set i x, way := w }
theorem O1 {g : Gn} {i j : Nat} {x : Nd} {w : List Ms} (hj : j < g.ns.length) : (MQ g i x w).n j = if i = j then x else g.n j := by
 unfold MQ Gn.n
 simp only [List.getD_eq_getElem?_getD, List.getElem?_set]
 by_cases h : i = j
 ·subst h; simp [hj]
 ·simp [h]
theorem GI.go {g : Gn} {E E' : List Ms} (h : GI g E) {i : Nat} (hi : i < 5) {x : Nd} {out w : List Ms}
  (hg : ∀ H l, QC H → NI H i (g.n i) l → (∀ m, m ∈ g.way ∨ m ∈ E → MI H m) → M4 1 i H x out) (hw : ∀ m, m ∈ w ∨ m ∈ E' → (m ∈ g.way ∨ m ∈ E) ∨ m ∈ out) : GI (MQ g i x w) E' := by
 obtain ⟨h1, h2, H, L, hF, hN, hM⟩ := h
 obtain ⟨H', l', hD, hF', hN', hO⟩ := hg H (L i) hF (hN i hi) hM
 refine ⟨by show (g.ns.set i x).length = 5; rw [List.length_set]; exact h1, h2, H', fun j => if j = i then l' else L j, hF', ?_, ?_⟩
 ·intro j hj
  rw [O1 (by rw [h1]; exact hj)]
  by_cases hij : i = j
  ·subst hij
   simp only [if_true]
   exact hN'
  ·simp only [if_neg hij, if_neg (fun e : j = i => hij e.symm)]
   exact hD.oth j _ _ (fun e => hij e.symm) (hN j hj)
 ·intro m hm
  rcases hw m hm with h | h
  ·exact (hM m h).ext hF hD.ext
  ·exact hO m h
theorem GI.less {g : Gn} {E E' : List Ms} (h : GI g E) {w : List Ms} {aw : List Bool} (ha : aw.length = 5) (hw : ∀ m, m ∈ w ∨ m ∈ E' → m ∈ g.way ∨ m ∈ E) : GI { g with way := w, aw := aw } E' := by
 obtain ⟨h1, h2, H, L, hF, hN, hM⟩ := h
 exact ⟨h1, ha, H, L, hF, hN, fun m hm => hM m (hw m hm)⟩
theorem LP {g : Gn} {i : Int} (h : thN g i = true) : i.toNat < 5 ∧ isI i := by
 unfold thN at h
 rw [Bool.and_eq_true, decide_eq_true_eq] at h
 exact ⟨(Q7 h.1).1, h.1⟩
theorem Vk (g : Gn) (i : Nat) (t : Nd) (l : List Ms) : M0 g i t l = MQ g i t (g.way ++ l) := rfl
theorem GI.tick {g : Gn} {E : List Ms} (h : GI g E) (i : Int) : GI (Jv g i) E := by
 unfold Jv
 split
 ·rename_i ht
  obtain ⟨h5, _⟩ := LP ht
  rw [Vk]
  refine h.go h5 (out := (Xi (g.n i.toNat)).2) (fun H l hF hN _ => Aq hF hN h5) ?_
  intro m hm
  rcases hm with hm | hm
  ·rcases List.mem_append.1 hm with h | h
   ·exact .inl (.inl h)
   ·exact .inr h
  ·exact .inl (.inr hm)
 ·exact h
theorem GI.take {g : Gn} {E : List Ms} (h : GI g E) {m : Ms} (hm : m ∈ g.way ∨ m ∈ E) : GI (Zf g m) E := by
 unfold Zf
 split
 ·rename_i ht
  obtain ⟨h5, _⟩ := LP ht
  rw [Vk]
  refine h.go h5 (out := (Xd (g.n m.to.toNat) m).2) (fun H l hF hN hM => Aw hF hN h5 (hM m hm)) ?_
  intro x hx
  rcases hx with hx | hx
  ·rcases List.mem_append.1 hx with h | h
   ·exact .inl (.inl h)
   ·exact .inr h
  ·exact .inl (.inr hx)
 ·exact h
theorem GI.wake {g : Gn} {E : List Ms} (h : GI g E) {i : Nat} (hi : i < 5) : GI (MQ g i (QK (g.n i)) g.way) E :=
 h.go hi (out := []) (fun H l hF hN _ => Ak hF hN) fun m hm => .inl hm
def IU (c0 : Int) : Yt := ⟨c0, 0, fun _ => [], fun _ => 0, fun _ => False, fun _ => 0, fun _ _ => [], fun _ _ _ => False, fun _ _ _ => False, fun _ _ _ => False, fun _ _ _ => False⟩
theorem Ty (c0 : Int) {i : Nat} (hi : i < 5) : (GM c0).n i = XG (i : Int) c0 := by
 match i, hi with
 | 0, _ => rfl
 | 1, _ => rfl
 | 2, _ => rfl
 | 3, _ => rfl
 | 4, _ => rfl
theorem G5 {c0 : Int} (h0 : 0 ≤ c0) (h1 : c0 ≤ 31) : QC (IU c0) :=
 { c00 := h0, c01 := h1, cr := fun _ _ h => h.elim, ld5 := fun _ h => h.elim, lled := fun _ _ _ h => h.elim, vpos := fun _ _ _ h => h.elim, lbd := fun _ h => h.elim, ackl := fun _ _ _ h => h.elim, pos := fun _ h => h.elim, cons := fun _ h => h.elim, len := fun _ h => h.elim,
     old := fun _ _ _ h => h.elim, own := fun _ _ _ h => h.elim, cl := fun _ h => h.elim, win := fun _ h => h.elim, once := fun _ _ _ _ h => h.elim, voted := fun _ _ _ h => h.elim, com := fun _ _ _ h => h.elim, chg := fun _ _ _ h => h.elim }
theorem TP (c0 : Int) (i : Nat) : NI (IU c0) i (XG (i : Int) c0) [] := by
  refine { id := rfl, t0 := Int.le_refl _, t1 := by simp [XG], base := ⟨0, rfl, Nat.le_refl _, rfl, rfl, rfl⟩, com := ⟨0, rfl, Int.le_refl _, Nat.le_refl _, .inl rfl⟩, cons := fun j e h => by simp at h, terms := fun j e h => by simp at h, votel := fun _ _ h => h.elim, vote := fun c => ⟨fun h => h.elim, fun h => ?_⟩, stood := fun _ _ h => h.elim, votes0 := Int.le_refl _, votes1 := by simp [XG], sz := fun j _ => ?_, cand := fun h => by simp [XG] at h, lead := fun h => by simp [XG] at h, acks := fun _ _ h => h.elim }
  ·have h' : (-1 : Int) = (c : Nat) := h
   omega
  ·have : (F5.all 0).get j = 0 := F5.get_all 0 j
   simp only [XG, this, IU]; omega
theorem GI.new {c0 : Int} (h0 : 0 ≤ c0) (h1 : c0 ≤ 31) : GI (GM c0) [] :=
 ⟨rfl, rfl, IU c0, fun _ => [], G5 h0 h1, fun i hi => by rw [Ty c0 hi]; exact TP c0 i, fun m hm => by rcases hm with h | h <;> cases h⟩
end Go.Proofs.YtjbokbikkcfjjaaGreat
namespace Go.Cap
section
variable {K : Ctx} {P : Program} {t : Env} {H : Qd} {N : Env → Qd → Prop} {ty ty' tp : TypeId} {pos : String} {aft : Array Edge} {g : Option (Nat × Bool)} {ops : Array Oper} {i : Nat} {l : List Oper} {kd : Tmp} {eff : List Nat} {pend : List Xs} {al : List (Nat × Oper)} {dst : Option Tmp}
theorem ME {x y : Operand} {b n c : Nat} {k : Blk} {pre row : List T} {ys : List T} {f : Bool} {dy : T} {d : T} {by_ : Nat} (i : Nat) (hx : t.ev x = .v (.slice (some ⟨b, pre.length, none⟩) n c)) (hi : H[i]? = some (b, k)) (hy : t.ev y = dy) (hyl : Le dy (.sl f ys))
  [hz : QB K.P ty d by_] (hs : QE K.P ty' = true) (hty : k.ty = .ty (Xc K.P ty)) (hkc : k.cells = pre ++ row) (hkl : row.length = n * d.cells.length) (hks : k.size = pre.length + c * d.cells.length)
  (hky : ∀ x ∈ ys, x.cells.length = d.cells.length) (hyleaf : ∀ x ∈ ys, Qx x.cells = true) (hb : (n + ys.length) * by_ ≤ 140737488355328) (hm : n + ys.length ≤ 9223372036854775807) {kd : Tmp} (hd : Nat.blt kd K.n = true)
  (h1' : n + ys.length ≤ c → N ((kd, .v (.slice (some ⟨b, pre.length, none⟩) (n + ys.length) c)) :: t) (H.set i (b, ⟨k.ty, k.cells ++ ys.flatMap T.cells, k.size⟩)))
  (h2' : ∀ b' c', (∀ e ∈ keys H, ¬ e = b') → n + ys.length ≤ c' → N ((kd, .v (.slice (some ⟨b', 0, none⟩) (n + ys.length) c')) :: t) (H.set i (b', ⟨k.ty, row ++ ys.flatMap T.cells, c' * d.cells.length⟩))) :
  EOp K t H ⟨some kd, .call ⟨.builtin .append, #[x, y], #[ty, ty']⟩, tp, pos, aft, g⟩ N := by
 refine EOp.of_w (fun c e => by cases e) ?_
 intro a w ⟨S, hr⟩ Kc Q hk
 have h1 := hr.env.ev x; rw [hx] at h1
 have h2 := hr.env.ev y; rw [hy] at h2
 replace h2 := hyl _ _ _ h2
 obtain ⟨e, inf, z, hu, hinf, hzz, hsz, hp, rfl, hby⟩ := Yp hz.h
 obtain ⟨e', _, hu', _⟩ := YL hs
 have hl := Xo z
 have hk0 : 0 < (T.ofVal z).cells.length := by omega
 have hee : Xc K.P ty = e := by unfold Xc; rw [hu]
 obtain ⟨cs, hbk, hcs, hcl, hrl⟩ := (hr.own.at hi).row hty
 have hkcl : k.cells.length = pre.length + row.length := by rw [hkc, List.length_append]
 have e1 : (execOp a.eval ⟨some kd, .call ⟨.builtin .append, #[x, y], #[ty, ty']⟩, tp, pos, aft, g⟩).run K.P w = ((Builtin.append_ #[ty, ty'] tp #[a.eval x, a.eval y]).run K.P w).andThen fun v w' => .ok (.value v) w' := by
  simp [execOp, resolve, invoke, builtin]
 unfold Oper.wp
 rw [e1, h1.v_eq]
 have hlen := Zh (P := K.P) h2
 have hly := XY ys hky
 have hsum : (n + ys.length) * (T.ofVal z).cells.length = n * (T.ofVal z).cells.length + ys.length * (T.ofVal z).cells.length := Nat.add_mul _ _ _
 have hleaf : Qx (ys.flatMap T.cells) = true := by
  unfold Qx
  rw [List.all_eq_true]
  intro q hq
  obtain ⟨x', hx', hq⟩ := List.mem_flatMap.1 hq
  exact List.all_eq_true.1 (hyleaf x' hx') q hq
 have hts : cs.toList.length = cs.size := Array.length_toList
 by_cases hfit : n + ys.length ≤ c
 ·have hcm : (n + ys.length) * (T.ofVal z).cells.length ≤ c * (T.ofVal z).cells.length := Nat.mul_le_mul_right _ hfit
  obtain ⟨vs, hvs, hrelv, hvl⟩ := Yn (P := K.P) h2 hky hk0 ys.length (Nat.le_refl _)
  rw [List.take_length] at hrelv
  rw [hl, ← hsz] at hvs
  have hst := Ym (P := K.P) (o := pre.length + n * inf.size) hbk vs (by rw [hsz, ← hl]; omega) (Z3 hrelv hleaf)
  rw [UJ (tp := tp) hu hu' hinf hlen hfit hvs hst]
  obtain ⟨s1, s2, s3, s4, s5, s6⟩ := Zg (cs' := (lay cs.toList (pre.length + n * inf.size) vs).toArray) hbk
  have hon : pre.length + n * inf.size = k.cells.length := by rw [hkcl, hkl, hsz, hl]
  have hw := hr.write hty (xs := ys.flatMap T.cells) (us := vs) (o := k.cells.length) hi (Nat.le_refl _) (by omega) s4 s5 s6 s3 s2 s1 (fun cs2 h2 => by rw [hbk] at h2; cases h2; rw [hon]) hrelv
  have hlay : lay k.cells k.cells.length (ys.flatMap T.cells) = k.cells ++ ys.flatMap T.cells := by
   unfold lay
   rw [List.take_length, List.drop_of_length_le (by omega), List.append_nil]
  rw [hlay] at hw
  have hh := h1' hfit
  refine hk _ _ _ _ hh ⟨S, ?_⟩
  exact ⟨by simp [hw.size], hw.defers.put (dst := some kd) hd, hw.step, hw.own, hw.mine, hw.env.put (dst := some kd) (by rw [hw.size]; exact hd) (.v _)⟩
 ·have h2d : Rel S w.drew (.sl f ys) (a.eval y) := h2.mono Xz
  obtain ⟨vs, hvs, hrelv, hvl⟩ := Yn (P := K.P) h2d hky hk0 ys.length (Nat.le_refl _)
  rw [List.take_length] at hrelv
  rw [hl, ← hsz] at hvs
  have hold : (Builtin.firstCells inf.size n (.slice (some ⟨b, pre.length, none⟩) n c)).run K.P w.drew = .ok ((cs.toList.drop pre.length).take (n * inf.size)).toArray w.drew := by
   simp only [Builtin.firstCells]
   exact Zi (w := w.drew) (b := b) (cs := cs) (ty := Xc K.P ty) (fz := (0, 0)) hbk _ (by rw [List.length_take, List.length_drop, hsz, ← hl]; omega) (by simp)
  have hrun := Jz (tp := tp) hu hu' hinf hzz hlen (show c < n + ys.length by omega) (by rw [hby]; exact hb) hm hold hvs
  rw [hrun]
  have hcap : n + ys.length ≤ grownCap w (n + ys.length) c e := Nat.le_add_right _ _
  have hrd : R1 K t H a w.drew S := ⟨hr.size, hr.defers.step Xz (fun _ _ h _ => h) (Nat.le_refl _), hr.step.trans (Yk hr.wf []) (by simp), hr.own.step (Yk hr.wf []) hr.wf (by simp) (by simp), hr.mine, hr.env.mono Xz⟩
  have hcm : (n + ys.length) * (T.ofVal z).cells.length ≤ grownCap w (n + ys.length) c e * (T.ofVal z).cells.length := Nat.mul_le_mul_right _ hcap
  have hzs : (grownCap w (n + ys.length) c e - (n + ys.length)) * (T.ofVal z).cells.length = grownCap w (n + ys.length) c e * (T.ofVal z).cells.length - (n + ys.length) * (T.ofVal z).cells.length := Nat.sub_mul _ _ _
  have hnk : n * inf.size = row.length := by rw [hkl, hsz, hl]
  have hrow : QF S w row ((cs.toList.drop pre.length).take row.length) := by
   have h5 := hrl.drop pre.length
   rw [hkc, List.drop_left, List.drop_take, List.length_append, Nat.add_sub_cancel_left] at h5
   exact h5
  have hfr := hrd.swap (ty1 := e) (d := .v (.slice (some ⟨w.heap.size, 0, none⟩) (n + ys.length) (grownCap w (n + ys.length) c e))) hi
   (k := ⟨k.ty, row ++ ys.flatMap T.cells, grownCap w (n + ys.length) c e * (T.ofVal z).cells.length⟩)
   (cs := ((cs.toList.drop pre.length).take (n * inf.size)).toArray ++ vs.toArray ++ Builtin.zeroCells z.cells (grownCap w (n + ys.length) c e - (n + ys.length)))
   (by simp only [Array.size_append, List.size_toArray, Zm, List.length_take, List.length_drop, hvl, ← hl, hnk]; omega) (by simp only [List.length_append]; omega) (hT := hty.trans (by rw [hee])) (by
    have : (((cs.toList.drop pre.length).take (n * inf.size)).toArray ++ vs.toArray ++ Builtin.zeroCells z.cells (grownCap w (n + ys.length) c e - (n + ys.length))).toList = ((cs.toList.drop pre.length).take (n * inf.size) ++ vs) ++ (Builtin.zeroCells z.cells (grownCap w (n + ys.length) c e - (n + ys.length))).toList := by simp
    simp only
    rw [this, List.take_left' (by simp only [List.length_append, List.length_take, List.length_drop, hvl, hly, hnk]; omega), hnk]
    exact (hrow.mono Xz).append hrelv) hd (.v _)
  have hh := h2' w.heap.size _ (Y6 hr) hcap
  rw [hee] at hty
  exact hk _ _ _ _ hh ⟨S, hfr⟩
def OSo (e : TypeId) (k : Nat) (xs : List T) (v : Value) (Hs : Qd) : Prop :=
 (xs = [] ∧ (∃ p, v = .slice p 0 0) ∧ Hs = []) ∨ ∃ b c pre, v = .slice (some ⟨b, List.length pre, none⟩) xs.length c ∧ xs.length ≤ c ∧ Hs = [(b, ⟨e, pre ++ xs.flatMap T.cells, pre.length + c * k⟩)]
theorem OSl.o {e : TypeId} {k : Nat} {xs : List T} {v : Value} {Hs : Qd} (h : OSl e k xs v Hs) : OSo e k xs v Hs := by
 rcases h with h | ⟨b, c, h1, h2, h3⟩
 ·exact .inl h
 ·exact .inr ⟨b, c, [], h1, h2, by rw [h3]; simp⟩
theorem OSo.len {e : TypeId} {k : Nat} {xs : List T} {v : Value} {Hs : Qd} (h : OSo e k xs v Hs) : ∃ p c, v = .slice p xs.length c := by
 rcases h with ⟨rfl, ⟨p, rfl⟩, _⟩ | ⟨b, c, pre, rfl, _⟩
 ·exact ⟨_, _, rfl⟩
 ·exact ⟨_, _, rfl⟩
theorem OSo.lend {e : TypeId} {k : Nat} {xs : List T} {v : Value} {Hs G : Qd} (h : OSo e k xs v Hs) (hG : ∀ p ∈ Hs, p ∈ G) (hk : ∀ y ∈ xs, y.cells.length = k) (hs : ∀ y ∈ xs, y.solid) : QJ G (.v v) (.sl false xs) := by
 intro S w u ho hr
 have := hr.v_eq
 subst this
 rcases h with ⟨rfl, ⟨p, rfl⟩, _⟩ | ⟨b, c, pre, rfl, hc, rfl⟩
 ·exact .nil _ _ _ (by simp)
 ·have hb : (b, (⟨e, pre ++ xs.flatMap T.cells, pre.length + c * k⟩ : Blk)) ∈ G := hG _ List.mem_cons_self
  obtain ⟨cs, h1, h2, h3, h4⟩ := ho.has _ hb
  simp only at h1 h2 h3 h4
  have h5 := (Qk.le (G := G) (LeL.refl _)) S w _ ho h4
  have h6 := h5.drop pre.length
  rw [List.drop_left, List.drop_take, List.length_append, Nat.add_sub_cancel_left] at h6
  obtain ⟨vs, hv1, hv2, hv3⟩ := Gg xs _ h6 hk hs
  have hvl := hv1.length
  have hfl : (xs.flatMap T.cells).length = xs.length * k := XY xs hk
  have hrel := Rel.sl (S := fun b => S b ∨ b ∈ keys G) (w := w) false xs b pre.length c vs k cs e (0, 0) (.inr (List.mem_map.2 ⟨_, hb, rfl⟩)) h1 hv1 ⟨hv2, by rw [← hv3, hfl, hvl]⟩ (by simp) (by omega)
  rw [hvl] at hrel
  exact hrel
theorem UU {x y : Operand} {e : TypeId} {k : Nat} {xs ys : List T} {v : Value} {Hs A B : Qd} {f : Bool} {dy d : T} {by_ : Nat} [hz : QB K.P ty d by_] (ho : OSo e k xs v Hs) (hH : H = A ++ (Hs ++ B)) (hx : t.ev x = .v v) (hy : t.ev y = dy) (hyl : Le dy (.sl f ys)) (h0 : 0 < ys.length)
  (hkd : d.cells.length = k) (hk0 : Xc K.P ty = e) (hs : QE K.P ty' = true) (hkx : ∀ x ∈ xs, x.cells.length = k) (hky : ∀ x ∈ ys, x.cells.length = k) (hyleaf : ∀ x ∈ ys, Qx x.cells = true) (hb : (xs.length + ys.length) * by_ ≤ 140737488355328) (hm : xs.length + ys.length ≤ 9223372036854775807)
  (hd : Nat.blt kd K.n = true) (h : ∀ v' Hs', OSo e k (xs ++ ys) v' Hs' → N ((kd, .v v') :: t) (A ++ (Hs' ++ B))) : EOp K t H ⟨some kd, .call ⟨.builtin .append, #[x, y], #[ty, ty']⟩, tp, pos, aft, g⟩ N := by
 rcases ho with h1 | ⟨b, c, pre, rfl, hc, rfl⟩
 ·exact Ye (.inl h1) hH hx hy hyl h0 hkd hk0 hs hkx hky hyleaf hb hm hd fun v' Hs' ho' => h v' Hs' ho'.o
 ·subst hkd
  have hi : H[A.length]? = some (b, (⟨e, pre ++ xs.flatMap T.cells, pre.length + c * d.cells.length⟩ : Blk)) := by subst hH; simp
  have hset : ∀ p, H.set A.length p = A ++ ([p] ++ B) := fun p => by
   subst hH
   rw [List.set_append_right _ _ (Nat.le_refl _)]
   simp
  refine ME A.length hx hi hy hyl hs (congrArg BTy.ty hk0.symm) rfl (XY xs hkx) rfl hky hyleaf hb hm hd (fun h1 => ?_) (fun b' c' _ h2 => ?_)
  ·rw [hset]
   have := h (.slice (some ⟨b, pre.length, none⟩) (xs ++ ys).length c) _ (.inr ⟨b, c, pre, rfl, by simpa using h1, rfl⟩)
   simpa [List.append_assoc] using this
  ·rw [hset]
   have := h (.slice (some ⟨b', 0, none⟩) (xs ++ ys).length c') _ (.inr ⟨b', c', [], rfl, by simpa using h2, rfl⟩)
   simpa [List.append_assoc] using this
theorem HZ {x y : Operand} {e : TypeId} {k : Nat} {xs ys : List T} {v : Value} {Hs A B : Qd} {f : Bool} {dy d : T} {by_ : Nat} [hz : QB K.P ty d by_] (ho : OSo e k xs v Hs) (hkx : ∀ x ∈ xs, x.cells.length = k)
  (h : ∀ v' Hs', OSo e k (xs ++ ys) v' Hs' → Qi K ops (i + 1) l ((kd, .v v') :: t) (A ++ (Hs' ++ B)) N) (hH : H = A ++ (Hs ++ B) := by rfl) (hx : t.ev x = .v v := by exact zl) (hy : t.ev y = dy := by exact zl) (hyl : Le dy (.sl f ys) := by exact zL) (h0 : 0 < ys.length := by exact zo)
  (hkd : d.cells.length = k := by rfl) (hk0 : Xc K.P ty = e := by rfl) (hs : QE K.P ty' = true := by rfl) (hky : ∀ x ∈ ys, x.cells.length = k := by exact zk) (hyleaf : ∀ x ∈ ys, Qx x.cells = true := by exact zf)
  (hb : (xs.length + ys.length) * by_ ≤ 140737488355328 := by exact zo) (hm : xs.length + ys.length ≤ 9223372036854775807 := by exact zo) (hd : Nat.blt kd K.n = true := by rfl) :
  Qi K ops i (⟨some kd, .call ⟨.builtin .append, #[x, y], #[ty, ty']⟩, tp, pos, aft, none⟩ :: l) t H N := Yw (UU ho hH hx hy hyl h0 hkd hk0 hs hkx hky hyleaf hb hm hd h)
theorem SG {x y : Operand} {e : TypeId} {k : Nat} {xs ys : List T} {v : Value} {Hs A B : Qd} {f : Bool} {dy d : T} {by_ : Nat} [hz : QB K.P ty d by_] (ho : OSo e k xs v Hs) (hkx : ∀ x ∈ xs, x.cells.length = k)
  (h : ∀ v' Hs', OSo e k (xs ++ ys) v' Hs' → XU ops ⟨some kd, .call ⟨.builtin .append, #[x, y], #[ty, ty']⟩, tp, pos, aft, none⟩ (A ++ (Hs' ++ B)) pend ∧ ∃ pend', Yf ops ⟨some kd, .call ⟨.builtin .append, #[x, y], #[ty, ty']⟩, tp, pos, aft, none⟩ pend pend' ∧ Qo K ops eff N al ((kd, .v v') :: t) (A ++ (Hs' ++ B)) pend') (hH : H = A ++ (Hs ++ B) := by rfl) (hx : t.ev x = .v v := by exact zl) (hy : t.ev y = dy := by exact zl) (hyl : Le dy (.sl f ys) := by exact zL) (h0 : 0 < ys.length := by exact zo)
  (hkd : d.cells.length = k := by rfl) (hk0 : Xc K.P ty = e := by rfl) (hs : QE K.P ty' = true := by rfl) (hky : ∀ x ∈ ys, x.cells.length = k := by exact zk) (hyleaf : ∀ x ∈ ys, Qx x.cells = true := by exact zf)
  (hb : (xs.length + ys.length) * by_ ≤ 140737488355328 := by exact zo) (hm : xs.length + ys.length ≤ 9223372036854775807 := by exact zo) (hd : Nat.blt kd K.n = true := by rfl) (he : Q3 eff i = true := by rfl) :
  Qo K ops eff N ((i, ⟨some kd, .call ⟨.builtin .append, #[x, y], #[ty, ty']⟩, tp, pos, aft, none⟩) :: al) t H pend :=
 U1 (fun _ h1 => UU ho hH ((h1 x (by simp [Op.operands, Call.operands])).trans hx) ((h1 y (by simp [Op.operands, Call.operands])).trans hy) hyl h0 hkd hk0 hs hkx hky hyleaf hb hm hd fun v' Hs' ho' => let ⟨h1, p', h2, h3⟩ := h v' Hs' ho'; ⟨_, p', rfl, h1, h2, h3⟩) he
theorem OSo.at {e : TypeId} {k : Nat} {xs : List T} {p : Option Addr} {n c : Nat} {Hs : Qd} (h : OSo e k xs (.slice p n c) Hs) {j : Nat} (hj : j < xs.length) : ∃ b pre, p = some ⟨b, List.length pre, none⟩ ∧ (b, (⟨e, pre ++ xs.flatMap T.cells, pre.length + c * k⟩ : Blk)) ∈ Hs := by
 rcases h with ⟨rfl, _⟩ | ⟨b, c', pre, hv, hc, rfl⟩
 ·simp at hj
 ·cases hv
  exact ⟨b, pre, rfl, List.mem_singleton.2 rfl⟩
theorem Xg.pre {pre cs : List T} {o n : Nat} {r : List T} (h : Xg cs o n r) : Xg (pre ++ cs) (pre.length + o) n r := by
 obtain ⟨h1, h2⟩ := h.eq
 have h3 := Xg.of (cs := pre ++ cs) (o := pre.length + o) (n := n) (by rw [List.length_append]; omega)
 rw [List.drop_length_add_append, h1] at h3
 exact h3
theorem Xg.post {cs q : List T} {o n : Nat} {r : List T} (h : Xg cs o n r) : Xg (cs ++ q) o n r := by
 obtain ⟨h1, h2⟩ := h.eq
 have h3 := Xg.of (cs := cs ++ q) (o := o) (n := n) (by rw [List.length_append]; omega)
 rw [List.drop_append_of_le_length (by omega), List.take_append_of_le_length (by rw [List.length_drop]; omega), h1] at h3
 exact h3
theorem Xg.elem {pre xs : List T} {k j : Nat} {x : T} (hk : ∀ y ∈ xs, y.cells.length = k) (h : xs[j]? = some x) : Xg (pre ++ xs.flatMap T.cells) (pre.length + j * k) k x.cells := by
 have := (Xg.flat hk h).pre (pre := pre)
 rwa [Nat.zero_add] at this
theorem Tm {x y : Operand} {p : Option Addr} {n c : Nat} {f : Bool} {dy d : T} {by_ : Nat} [hz : QB P ty d by_] (hc : n ≤ c) (hx : t.ev x = .v (.slice p n c) := by exact zl) (hy : t.ev y = dy := by exact zl) (hyl : Le dy (.sl f []) := by exact zL) (hs : QE P ty' = true := by rfl) :
  POp P t H ⟨dst, .call ⟨.builtin .append, #[x, y], #[ty, ty']⟩, tp, pos, aft, g⟩ (.v (.slice p n c)) :=
 POp.still fun S w a _ _ hr => by
  have e1 := hr x (by simp [Op.operands, Call.operands]); rw [hx] at e1
  have e2 := hr y (by simp [Op.operands, Call.operands]); rw [hy] at e2
  replace e2 := hyl _ _ _ e2
  obtain ⟨e, inf, z, hu, hinf, hzz, hsz, hp, rfl, hby⟩ := Yp hz.h
  obtain ⟨e', _, hu', _⟩ := YL hs
  have hlen := Zh (P := P) e2
  have hl := Xo z
  obtain ⟨vs, hvs, hrelv, hvl⟩ := Yn (P := P) e2 (k := (T.ofVal z).cells.length) (by simp) (by omega) 0 (Nat.le_refl _)
  have hv0 : vs = [] := by simpa using hvl
  subst hv0
  rw [hl, ← hsz] at hvs
  refine ⟨.slice p n c, ?_, .v _⟩
  have e3 : a.eval x = .slice p n c := e1.v_eq
  have := ZV (tp := tp) hu hu' hinf (a := p) (n := n) (c := c) hlen hc hvs
  simp [execOp, resolve, invoke, builtin, e3, this]
theorem HC {b n : Nat} {ty0 : TypeId} {cells cells' : List T} {G H1 : Qd} {a : Act} {w : World} (hp : H.Perm ((b, ⟨ty0, cells, n⟩) :: (G ++ H1))) (hl : Qk G cells cells') (hln : cells'.length = cells.length) (hR : R K t H a w) : R K t ((b, ⟨ty0, cells', n⟩) :: H1) a w := by
 obtain ⟨S, hr⟩ := hR.perm (hp.trans List.perm_middle.symm)
 have hown := hr.own
 have hst : Q9 (keys G) S w (fun b => S b ∨ b ∈ keys G) w := ⟨rfl, rfl, rfl, Nat.le_refl _, fun _ _ _ => rfl, fun _ h => .inl h, fun c hc => hc.elim .inl fun e => .inr (.inr e),
  fun c hc => hc.elim (hr.wf c) fun e => hown.left.lt c e⟩
 have hm : ∀ c, S c → (S c ∨ c ∈ keys G) ∧ w.heap[c]? = w.heap[c]? := fun c hc => ⟨.inl hc, rfl⟩
 have hk' : keys ((b, (⟨ty0, cells', n⟩ : Blk)) :: H1) = keys ((b, (⟨ty0, cells, n⟩ : Blk)) :: H1) := rfl
 refine ⟨fun b => S b ∨ b ∈ keys G, hr.size, ⟨hr.defers.low, hr.defers.marks, fun j hj => hr.defers.flags j fun u hu => hj u (hu.mono hm)⟩, hr.step.trans hst (fun b hb => hr.mine b (by rw [Qs]; exact List.mem_append_left _ hb)), ⟨?_, fun c hc hS => ?_, fun p hp' => ?_⟩,
  fun c hc => hr.mine c (by rw [Qs]; exact List.mem_append_right _ hc), hr.env.mono hm⟩
 ·rw [hk']; exact hown.right.nodup
 ·rw [hk'] at hc
  rcases hS with h | h
  ·exact hown.right.apart c hc h
  ·exact hown.disj c h hc
 ·rcases List.mem_cons.1 hp' with rfl | hp'
  ·obtain ⟨cs, h1, h2, h3, h4⟩ := hown.right.has (b, ⟨ty0, cells, n⟩) List.mem_cons_self
   simp only at h1 h2 h3 h4
   refine ⟨cs, h1, h2, by simp only; omega, ?_⟩
   simp only
   rw [hln]
   exact hl S w _ hown.left h4
  ·exact (hown.right.has p (List.mem_cons_of_mem _ hp')).mono rfl hm
theorem Cv {c : Code} {Ψ : Exit → Env → Qd → Prop} {b n : Nat} {ty0 : TypeId} {cells cells' : List T} {G H1 : Qd} (hl : Qk G cells cells') (hln : cells'.length = cells.length) (hp : H.Perm ((b, ⟨ty0, cells, n⟩) :: (G ++ H1))) (h : Sim K c t ((b, ⟨ty0, cells', n⟩) :: H1) Ψ) : Sim K c t H Ψ :=
 fun a w hr => h a w (HC hp hl hln hr)
end
end Go.Cap
