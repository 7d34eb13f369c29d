/-
  Raft's safety: votes, who leads, what is laid and committed, node by node.
-/
import Derived.Test.YtjbokbikkcfjjaaGreatAao
set_option maxRecDepth 16000
set_option maxHeartbeats 8000000
set_option linter.all false
namespace Go.Proofs.YtjbokbikkcfjjaaGreat
namespace Raft
variable {H : Xm} {i : Nat} {n : Nd} {l : List En}
theorem WJ (hid : n.id = (i : Nat)) (hi : i < 5) {to : Int} {yes : Bool} (hto : ∃ f : Nat, f < 5 ∧ to = f) (hy : yes = true → ∀ c : Nat, to = c → H.vote n.term i c) : MI H (QG n to (YR yes)) where
 frm := ⟨i, hi, hid⟩
 to := hto
 k1 := fun h => by simp [QG, YR] at h
 k2 := fun _ hyes f c hf hc => by
  have : f = i := by have : n.id = (f : Nat) := hf; omega
  subst this
  exact hy hyes c hc
 k3 := fun h => by simp [QG, YR] at h
 k4 := fun h => by simp [QG, YR] at h
 k5 := fun h => by simp [QG, YR] at h
 i0 := by simp [QG, YR]
 i1 := by simp [QG, YR]
 es := by simp [QG, YR]
theorem Vf (hid : n.id = (i : Nat)) (hi : i < 5) {to : Int} {yes : Bool} {idx : Int} (hto : ∃ f : Nat, f < 5 ∧ to = f) (h0 : -1 ≤ idx) (h1 : idx ≤ H.bd) (hy : yes = true → ∃ k : Nat, idx = k ∧ ∀ j, 0 < j → j ≤ k → H.ack n.term i j) : MI H (QG n to (XY yes idx)) where
 frm := ⟨i, hi, hid⟩
 to := hto
 k1 := fun h => by simp [QG, XY] at h
 k2 := fun h => by simp [QG, XY] at h
 k3 := fun h => by simp [QG, XY] at h
 k4 := fun _ hyes => by
  obtain ⟨k, h2, h3⟩ := hy hyes
  refine ⟨k, h2, fun f hf j h4 h5 => ?_⟩
  have : f = i := by have : n.id = (f : Nat) := hf; omega
  subst this
  exact h3 j h4 h5
 k5 := fun h => by simp [QG, XY] at h
 i0 := h0
 i1 := h1
 es := by simp [QG, XY]
theorem Nf (hid : n.id = (i : Nat)) (hi : i < 5) {to idx lt : Int} (hto : ∃ f : Nat, f < 5 ∧ to = f) (h0 : 0 ≤ idx) (h1 : idx ≤ H.bd) (hv : H.vote n.term i i) (hx : idx = (H.CL n.term i).length) (ht : lt = ZJ (H.CL n.term i)) : MI H (QG n to (UT idx lt)) where
 frm := ⟨i, hi, hid⟩
 to := hto
 k1 := fun _ f hf => by
  have : f = i := by have : n.id = (f : Nat) := hf; omega
  subst this
  exact ⟨hv, hx, ht⟩
 k2 := fun h => by simp [QG, UT] at h
 k3 := fun h => by simp [QG, UT] at h
 k4 := fun h => by simp [QG, UT] at h
 k5 := fun h => by simp [QG, UT] at h
 i0 := by simp only [QG, UT]; omega
 i1 := h1
 es := by simp [QG, UT]
theorem B8 (F : Qo H) (h : NI H i n l) (hi : i < 5) {m : Ms} (M : MI H m) (hk : m.kind = 1) (hf : m.frm ≠ n.id) :
  ∃ H', XC 0 i H H' ∧ Qo H' ∧ NI H' i (Yj n m) l ∧ MI H' (QG (Yj n m) m.frm (YR (Lt n m))) := by
 by_cases hy : Lt n m = true
 ·obtain ⟨f, hf5, hmf⟩ := M.frm
  obtain ⟨hvf, hidx, hlt⟩ := M.k1 hk f hmf
  have hfi : f ≠ i := by rintro rfl; exact hf (by rw [hmf, h.id])
  have hv : Yj n m = { n with vote := (f : Nat), wait := 0 } := by rw [Yj, if_pos hy, hmf]
  rw [Lt, decide_eq_true_iff] at hy
  obtain ⟨⟨hT, hvote⟩, hup⟩ := hy
  rw [h.lastTerm, h.last, hidx, hlt] at hup
  rw [hT] at hvf hup
  have hup : Ae l (H.CL n.term f) := by
   rcases hup with h1 | ⟨h1, h2⟩
   ·exact .inl h1
   ·exact .inr ⟨h1.symm, by omega⟩
  by_cases hvv : n.vote = (f : Nat)
  ·refine ⟨H, XC.refl i H, F, ?_, ?_⟩
   ·rw [hv]
    exact h.extG F (Ext.refl H) h.votel (fun c => by rw [h.vote c, hvv]) (fun T v hh => ⟨v, hh⟩) (fun _ hh _ => hh) (fun _ _ hh => .inl hh) (fun _ _ _ => rfl)
   ·rw [hv]
    refine WJ h.id hi M.frm fun _ c hc => ?_
    show H.vote n.term i c
    rw [h.vote c, hvv, ← hmf, hc]
  ·have hvm : n.vote = -1 := by
    rcases hvote with h1 | h1
    ·exact h1
    ·exact absurd (h1.trans hmf) hvv
   have hm : ∀ d, ¬ H.vote n.term i d := fun d hd => by
    have := (h.vote d).1 hd
    omega
   refine ⟨H.give n.term i f, Ia F hvf, GF F hm hvf h.cons hup (fun S k hk => (h.acks S k hk).2), ?_, ?_⟩
   ·rw [hv]
    refine h.extG F WV ?_ (fun c => ⟨?_, fun hc => .inr ⟨rfl, rfl, by omega⟩⟩) ?_ (fun _ hh _ => hh) (fun _ _ hh => .inl hh) (fun _ _ _ => rfl)
    ·rintro T c (hh | ⟨hh, _⟩)
     ·exact h.votel T c hh
     ·omega
    ·rintro (hh | ⟨_, _, hh⟩)
     ·exact absurd hh (hm c)
     ·rw [hh]
    ·rintro T v (hh | ⟨_, _, hh⟩)
     ·exact ⟨v, hh⟩
     ·exact absurd hh.symm hfi
   ·rw [hv]
    refine WJ h.id hi M.frm fun _ c hc => ?_
    exact .inr ⟨rfl, rfl, by omega⟩
 ·have hv : Yj n m = n := by rw [Yj, if_neg hy]
  refine ⟨H, XC.refl i H, F, by rw [hv]; exact h, ?_⟩
  rw [hv]
  exact WJ h.id hi M.frm fun h1 => absurd h1 hy
theorem IZ (F : Qo H) (h : NI H i n l) (hi : i < 5) (ht : n.term < 1073741824) :
  ∃ H', XC 0 i H H' ∧ Qo H' ∧ NI H' i (QC n) l ∧ (∀ to : Nat, to < 5 → MI H' (QG (QC n) to (UT (QT n) (termF n (QT n))))) ∧ (∀ j, j < 5 → (2 ^ i : Nat).testBit j = true → H'.vote (QC n).term j i) := by
 have hn : ∀ v, ¬ H.vote (n.term + 1) v i := fun v hv => by have := h.stood _ v hv; omega
 have hm : ∀ c, ¬ H.vote (n.term + 1) i c := fun c hv => by have := h.votel _ c hv; omega
 have E := Uf (l := l) hn
 have hCL : (H.stand (n.term + 1) i l).CL (n.term + 1) i = l := if_pos ⟨rfl, rfl⟩
 have hbit : ∀ j, j < 5 → (2 ^ i : Nat).testBit j = true → j = i := fun j _ hb => by
  rw [Nat.testBit_two_pow] at hb
  exact (of_decide_eq_true hb).symm
 refine ⟨H.stand (n.term + 1) i l, Ga F hn, DI F (by have := h.t0; omega) hn hm h.cons (fun j e he => by have := h.terms j e he; omega) (fun S k hk => ?_), ?_, fun to hto => ?_, ?_⟩
 ·rcases (h.acks S k hk).2 with h1 | ⟨t, h1, h2, h3⟩
  ·exact .inl h1
  ·exact .inr ⟨t, h1, by omega, h3⟩
 ·have hidn : n.id.toNat = i := by rw [h.id]; rfl
  refine { id := h.id, t0 := ?_, t1 := ?_, base := h.base, com := ?_, cons := h.cons.ext E, terms := ?_, votel := ?_, vote := ?_, stood := ?_, votes0 := ?_, votes1 := ?_, sz := h.sz, cand := ?_, lead := ?_, acks := ?_ }
  ·have := h.t0; simp only [QC]; omega
  ·simp only [QC]; omega
  ·obtain ⟨c, h1, h2, h3, h4⟩ := h.com
   exact ⟨c, h1, h2, h3, (h4.ext F E).up (by simp only [QC]; omega)⟩
  ·intro j e he
   have := h.terms j e he
   simp only [QC]; omega
  ·rintro T c (hh | ⟨hh, _⟩)
   ·have := h.votel T c hh; simp only [QC]; omega
   ·simp only [QC]; omega
  ·intro c
   simp only [QC, h.id]
   constructor
   ·rintro (hh | ⟨_, _, hh⟩)
    ·exact absurd hh (hm c)
    ·rw [hh]
   ·intro hh
    exact .inr ⟨rfl, rfl, by omega⟩
  ·rintro T v (hh | ⟨hh, _⟩)
   ·have := h.stood T v hh; simp only [QC]; omega
   ·simp only [QC]; omega
  ·simp only [QC]
   rcases (by omega : i = 0 ∨ i = 1 ∨ i = 2 ∨ i = 3 ∨ i = 4) with h1 | h1 | h1 | h1 | h1 <;> rw [hidn, h1] <;> decide
  ·simp only [QC]
   rcases (by omega : i = 0 ∨ i = 1 ∨ i = 2 ∨ i = 3 ∨ i = 4) with h1 | h1 | h1 | h1 | h1 <;> rw [hidn, h1] <;> decide
  ·intro _
   refine ⟨hCL.symm, ?_, .inr ⟨rfl, rfl, rfl⟩, fun j hj hb => ?_⟩
   ·rintro ⟨h1, h2⟩
    obtain ⟨v, hv⟩ := Ji (F.wins h1)
    have h2' : H.ld (n.term + 1) = i := h2
    rw [show (QC n).term = n.term + 1 from rfl, h2'] at hv
    exact hn v hv
   ·have : (QC n).votes.toNat = 2 ^ i := by
     simp only [QC, hidn]
     rcases (by omega : i = 0 ∨ i = 1 ∨ i = 2 ∨ i = 3 ∨ i = 4) with h1 | h1 | h1 | h1 | h1 <;> rw [h1] <;> decide
    rw [this] at hb
    rw [hbit j hj hb]
    exact .inr ⟨rfl, rfl, rfl⟩
  ·intro hr; simp [QC] at hr
  ·intro S k hk
   obtain ⟨h1, h2⟩ := h.acks S k hk
   refine ⟨by simp only [QC]; omega, ?_⟩
   rcases h2 with h2 | ⟨t, h2, h3, h4, h5⟩
   ·exact .inl h2
   ·exact .inr ⟨t, h2, by simp only [QC]; omega, h4, by rw [E.CLld F h4]; exact h5⟩
 ·refine Nf (n := QC n) h.id hi ⟨to, hto, rfl⟩ ?_ ?_ (.inr ⟨rfl, rfl, rfl⟩) ?_ ?_
  ·rw [h.last]; omega
  ·rw [h.last]
   have := Xj.len F h.cons
   show (l.length : Int) ≤ (H.bd : Nat)
   omega
  ·rw [h.last]
   show _ = (((H.stand (n.term + 1) i l).CL (n.term + 1) i).length : Int)
   rw [hCL]
  ·rw [h.lastTerm]
   show _ = ZJ ((H.stand (n.term + 1) i l).CL (n.term + 1) i)
   rw [hCL]
 ·intro j hj hb
  rw [hbit j hj hb]
  exact .inr ⟨rfl, rfl, rfl⟩
theorem NI.to (h : NI H i n l) {c : Nat} (h1 : n.base ≤ c) (h2 : c ≤ l.length) (h3 : XL H n.term l c) : NI H i { n with commit := c } l :=
 ⟨h.id, h.t0, h.t1, h.base, ⟨c, rfl, h1, h2, h3⟩, h.cons, h.terms, h.votel, h.vote, h.stood, h.votes0, h.votes1, h.sz, h.cand, fun hr => by
  have := h.lead hr
  exact ⟨this.led, this.ld, this.log, this.mt, this.nx⟩, h.acks⟩
theorem Lg (n : Nd) (conf : Int) : ∀ k, n.commit ≤ XN n conf k ∧ (XN n conf k = n.commit ∨ ∃ j, j < k ∧ XN n conf k = n.base + j + 1 ∧ (n.log.getD j default).term = n.term ∧ XE conf (YD n.mtch (n.base + j + 1) 5) = true)
 | 0 => ⟨Int.le_refl _, .inl rfl⟩
 | k + 1 => by
  obtain ⟨h1, h2⟩ := Lg n conf k
  have h3 : XN n conf k = n.commit ∨ ∃ j, j < k + 1 ∧ XN n conf k = n.base + j + 1 ∧ (n.log.getD j default).term = n.term ∧ XE conf (YD n.mtch (n.base + j + 1) 5) = true := by
   rcases h2 with h2 | ⟨j, h3, h4⟩
   ·exact .inl h2
   ·exact .inr ⟨j, by omega, h4⟩
  rw [XN]
  split
  ·rename_i hc
   refine ⟨by omega, ?_⟩
   rcases Int.le_total (XN n conf k) (n.base + k + 1) with h | h
   ·rw [Int.max_eq_right h]
    exact .inr ⟨k, by omega, rfl, hc.1, hc.2⟩
   ·rw [Int.max_eq_left h]
    exact h3
  ·exact ⟨h1, h3⟩
theorem Pp : ∀ b0 b1 b2 b3 b4 : Bool, ∀ j : Fin 5, (((((((0 : Int) + if b0 then 1 else 0) + if b1 then 2 else 0) + if b2 then 4 else 0) + if b3 then 8 else 0) + if b4 then 16 else 0)).toNat.testBit j.val = [b0, b1, b2, b3, b4].getD j.val false := by decide +kernel
theorem I3 (f : F5) (idx : Int) {j : Nat} (hj : j < 5) : (YD f idx 5).toNat.testBit j = decide (idx ≤ f.get j) := by
 have h := Pp (decide (idx ≤ f.get 0)) (decide (idx ≤ f.get 1)) (decide (idx ≤ f.get 2)) (decide (idx ≤ f.get 3)) (decide (idx ≤ f.get 4)) ⟨j, hj⟩
 simp only [decide_eq_true_eq] at h
 have e : YD f idx 5 = ((((((0 : Int) + if idx ≤ f.get 0 then 1 else 0) + if idx ≤ f.get 1 then 2 else 0) + if idx ≤ f.get 2 then 4 else 0) + if idx ≤ f.get 3 then 8 else 0) + if idx ≤ f.get 4 then 16 else 0) := rfl
 rw [e, h]
 rcases (by omega : j = 0 ∨ j = 1 ∨ j = 2 ∨ j = 3 ∨ j = 4) with rfl | rfl | rfl | rfl | rfl <;> rfl
theorem VI (F : Qo H) (h : NI H i n l) (L : LI H i n l) : ∃ H', XC 0 i H H' ∧ Qo H' ∧ NI H' i (QU n) l ∧ LI H' i (QU n) l := by
 obtain ⟨b, hb, hbl, hlog, hlen⟩ := h.bnat
 obtain ⟨c0, hc0, hbc, hcl, hK⟩ := h.com
 have key : ∃ H', XC 0 i H H' ∧ Qo H' ∧ NI H' i { n with commit := XN n (Qx n).2 n.log.length } l ∧ LI H' i { n with commit := XN n (Qx n).2 n.log.length } l := by
  obtain ⟨h1, h2⟩ := Lg n (Qx n).2 n.log.length
  rcases h2 with h2 | ⟨j, h3, h4, h5, h6⟩
  ·rw [h2]
   exact ⟨H, XC.refl i H, F, h, L⟩
  ·rw [h4]
   have hjl : b + j < l.length := by omega
   have hg : l[b + j]? = some (n.log.getD j default) := by
    rw [hlog, List.getD_eq_getElem?_getD, List.getElem?_drop, List.getElem?_eq_getElem hjl]; rfl
   have hEL : H.EL n.term ≤ b + j := Nat.le_of_not_lt fun hlt => by
    have := F.old n.term (b + j) _ L.led (by rw [← L.log]; exact hg) hlt
    omega
   have hx : n.base + j + 1 = ((b + j + 1 : Nat) : Int) := by omega
   rw [hx] at h6 ⊢
   have hsb := V8 n.mtch ((b + j + 1 : Nat) : Int) 5
   have F' : Qo (H.commit n.term (b + j + 1) l.length) := by
    refine Dx F L.led (by omega) (by omega) (by rw [← L.log]; exact Nat.le_refl _) (s := (YD n.mtch ((b + j + 1 : Nat) : Int) 5).toNat) (by have : (2 : Int) ^ 5 = 32 := rfl; omega) ?_ (fun q hq hbq => ?_)
    ·rw [← L.log, List.take_length, ← h.conf, Int.toNat_of_nonneg hsb.1]; exact h6
    ·rw [I3 _ _ hq] at hbq
     exact (L.mt q hq).2.2 _ (by omega) (of_decide_eq_true hbq)
   refine ⟨H.commit n.term (b + j + 1) l.length, ER F, F', ?_, ?_⟩
   ·refine (Lf F h).to (by omega) (by omega) (.inr ⟨n.term, b + j + 1, l.length, .inr ⟨rfl, rfl, rfl⟩, Int.le_refl _, Nat.le_refl _, ?_⟩)
    show AG (H.LL n.term) l _
    rw [← L.log]; exact AG.refl (by omega)
   ·have := L.ext UO (H' := H.commit n.term (b + j + 1) l.length) (fun _ _ _ => rfl)
    exact ⟨this.led, this.ld, this.log, this.mt, this.nx⟩
 obtain ⟨H', h1, h2, h3, h4⟩ := key
 refine ⟨H', h1, h2, ?_⟩
 unfold QU
 split
 ·exact ⟨h3.quiet (w := 0), ⟨h4.led, h4.ld, h4.log, h4.mt, h4.nx⟩⟩
 ·exact ⟨h3, h4⟩
theorem CA (F : Qo H) (h : NI H i n l) (L : LI H i n l) (hi : i < 5) {to : Nat} (hto : to < 5) : MI H (Z5 n to) := by
 obtain ⟨b, hb, hbl, hlog, hbt, hbc⟩ := h.base
 obtain ⟨c, hc, hbc', hcl, hK⟩ := h.com
 have hlb := F.lbd _ L.led
 rw [← L.log] at hlb
 have hlen : n.log.length = l.length - b := by rw [hlog, List.length_drop]
 obtain ⟨x0, x1⟩ := L.nx to hto
 unfold Z5
 rw [Int.toNat_natCast]
 have hld : n.id = (H.ld n.term : Nat) := by rw [L.ld]; exact h.id
 split
 ·refine { frm := ⟨i, hi, h.id⟩, to := ⟨to, hto, rfl⟩, k1 := fun h => by simp [QG] at h, k2 := fun h => by simp [QG] at h, k3 := fun h => by simp [QG] at h, k4 := fun h => by simp [QG] at h, k5 := fun _ => ?_, i0 := ?_, i1 := ?_, es := by simp [QG] }
  ·simp only [QG]
   rw [← L.log]
   exact ⟨L.led, hld, b, hb, hbl, hbt, hbc, hK.le (by omega)⟩
  ·simp only [QG]; omega
  ·simp only [QG]; omega
 ·rename_i hnx
  obtain ⟨k, hk⟩ : ∃ k : Nat, n.next.get to - 1 = (k : Nat) := ⟨(n.next.get to - 1).toNat, by omega⟩
  have hm : (min (n.next.get to - 1 - n.base) (n.log.length : Int)).toNat = k - b := by omega
  have hdd : (n.log.drop (k - b)).take 8 = (l.drop k).take 8 := by rw [hlog, List.drop_drop, show b + (k - b) = k by omega]
  rw [hm, hdd, hk, h.termF (by omega) (by omega)]
  refine { frm := ⟨i, hi, h.id⟩, to := ⟨to, hto, rfl⟩, k1 := fun h => by simp [QG] at h, k2 := fun h => by simp [QG] at h, k3 := fun _ => ?_, k4 := fun h => by simp [QG] at h, k5 := fun h => by simp [QG] at h, i0 := ?_, i1 := ?_, es := ?_ }
  ·simp only [QG]
   rw [← L.log]
   refine ⟨L.led, hld, k, c, rfl, hc, ?_, ?_, rfl, hK⟩
   ·rw [List.length_take, List.length_drop]; omega
   ·rw [List.length_take, List.length_drop, List.take_eq_take_iff, List.length_drop]; omega
  ·simp only [QG]; omega
  ·simp only [QG]; omega
  ·simp only [QG, List.length_take]; omega
theorem Zr {F : Int → Ms} {k : Nat} {m : Ms} (h : m ∈ Yk n F k) : ∃ to : Nat, to < k ∧ m = F to := by
 unfold Yk at h
 obtain ⟨a, h1, h2⟩ := List.mem_map.1 h
 exact ⟨a, List.mem_range.1 (List.mem_filter.1 h1).1, h2.symm⟩
theorem M5 (F : Qo H) (h : NI H i n l) (L : LI H i n l) (hi : i < 5) : ∀ m ∈ Yk n (Z5 n) 5, MI H m := by
 intro m hm
 obtain ⟨to, h1, rfl⟩ := Zr hm
 exact CA F h L hi h1
end Raft
namespace Raft
variable {H : Xm} {i : Nat} {n : Nd} {l : List En}
theorem Uy {l : List En} {e x : En} {j : Nat} (h : (l ++ [e])[j]? = some x) : l[j]? = some x ∨ (j = l.length ∧ x = e) := by
 rcases Nat.lt_or_ge j l.length with hj | hj
 ·rw [List.getElem?_append_left hj] at h; exact .inl h
 ·rw [List.getElem?_append_right hj] at h
  have hj0 : j - l.length = 0 := by
   rcases Nat.eq_zero_or_pos (j - l.length) with h1 | h1
   ·exact h1
   ·rw [List.getElem?_eq_none (by simp only [List.length_singleton]; omega)] at h; cases h
  rw [hj0] at h
  have hx : e = x := by simpa using h
  exact .inr ⟨by omega, hx.symm⟩
theorem Oi {l x : List En} {b : Nat} (hb : b ≤ l.length) : tAt (l ++ x) b = tAt l b := ((AG.refl hb).appL).tAt
theorem EW (F : Qo H) (h : NI H i n l) (hi : i < 5) (hr : n.role = 1) (hs : ∃ s : Nat, s < 32 ∧ XE (Qx n).2 s = true ∧ ∀ j, j < 5 → s.testBit j = true → H.vote n.term j i) :
  ∃ H' l', XC 1 i H H' ∧ Qo H' ∧ NI H' i (XF n) l' ∧ LI H' i (XF n) l' := by
 obtain ⟨hCL, hnl, hvi, _⟩ := h.cand hr
 have hel : JJ H n.term i := by
  obtain ⟨s, h1, h2, h3⟩ := hs
  exact ⟨s, h1, by rw [← hCL, ← h.conf]; exact h2, h3⟩
 have hn : ¬ H.led n.term := fun hl => hnl ⟨hl, TR F (F.wins hl) hel⟩
 have hT := F.vpos _ _ _ hvi
 let e : En := ⟨n.term, 0, []⟩
 have F1 := EX F hn hel hi hT (e := e) rfl rfl
 have E1 := Up (i := i) (e := e) hn
 have hLL : (H.begin n.term i e).LL n.term = l ++ [e] := by rw [hCL]; exact if_pos rfl
 have hlen1 : (l ++ [e]).length = l.length + 1 := by simp
 have F2 := Uc (v := i) (k := l.length + 1) F1 (T := n.term) (.inr rfl) (by rw [hLL, hlen1]; exact Nat.le_refl _) (fun t c hc => h.votel t c hc)
 have E2 := Js (H := H.begin n.term i e) (T := n.term) (v := i) (k := l.length + 1)
 have hD := (G4 (i := i) (e := e) F hn).trans (UV (T := n.term) (k := l.length + 1) (i := i) F1)
 have E := E1.trans E2
 generalize hH : (H.begin n.term i e).agree n.term i (l.length + 1) = H2 at *
 have hled2 : H2.led n.term := by rw [← hH]; exact .inr rfl
 have hld2 : H2.ld n.term = i := by rw [← hH]; exact if_pos rfl
 have hLL2 : H2.LL n.term = l ++ [e] := by rw [← hH]; exact hLL
 have hack2 : ∀ k, k ≤ l.length + 1 → H2.ack n.term i k := fun k hk => by rw [← hH]; exact .inr ⟨rfl, rfl, hk⟩
 have hackI : ∀ S k, H2.ack S i k → H.ack S i k ∨ (S = n.term ∧ k ≤ l.length + 1) := by
  intro S k hk
  rw [← hH] at hk
  rcases hk with hk | ⟨h1, _, h2⟩
  ·exact .inl hk
  ·exact .inr ⟨h1, h2⟩
 have hvI : ∀ T v c, H2.vote T v c ↔ H.vote T v c := by intro T v c; rw [← hH]; exact Iff.rfl
 have hlb := F.lbd
 have hll := Xj.len F h.cons
 have hbd2 : H2.bd = H.bd + 1 := by rw [← hH]; rfl
 obtain ⟨b, hb, hbl, hlog, hbt, hbc⟩ := h.base
 obtain ⟨c, hc, hbc', hcl, hK⟩ := h.com
 have hlen : n.log.length = l.length - b := by rw [hlog, List.length_drop]
 have hnext : n.base + (n.log.length + 1) = ((l.length + 1 : Nat) : Int) := by omega
 have hidn : n.id.toNat = i := by rw [h.id]; rfl
 have hmt : ∀ j, j < 5 → (Yt n).mtch.get j = if j = i then ((l.length + 1 : Nat) : Int) else 0 := fun j hj => by
  simp only [Yt, hidn, hnext]
  rw [J7 _ hi hj, F5.get_all]
 have hnx : ∀ j, (Yt n).next.get j = ((l.length + 1 : Nat) : Int) := fun j => by simp only [Yt, hnext, F5.get_all]
 have L2 : LI H2 i (Yt n) (l ++ [e]) := by
  refine ⟨hled2, hld2, hLL2.symm, fun j hj => ?_, fun j hj => ?_⟩
  ·rw [hmt j hj, hlen1]
   split
   ·rename_i hji
    subst hji
    exact ⟨by omega, by omega, fun k _ hk => hack2 k (by omega)⟩
   ·exact ⟨by omega, by omega, fun k h1 h2 => by omega⟩
  ·rw [hnx, hlen1]; omega
 have N2 : NI H2 i (Yt n) (l ++ [e]) := by
  refine { id := h.id, t0 := h.t0, t1 := h.t1, base := ?_, com := ?_, cons := ?_, terms := ?_, votel := ?_, vote := ?_, stood := ?_, votes0 := h.votes0, votes1 := h.votes1, sz := ?_, cand := ?_, lead := fun _ => L2, acks := ?_ }
  ·refine ⟨b, hb, by rw [hlen1]; omega, ?_, ?_, ?_⟩
   ·show n.log ++ [e] = _
    rw [hlog, List.drop_append_of_le_length hbl]
   ·rw [Oi hbl]; exact hbt
   ·rw [List.take_append_of_le_length hbl, E.c0]; exact hbc
  ·exact ⟨c, hc, hbc', by rw [hlen1]; omega, (hK.ext F E).to ((AG.refl hcl).appR)⟩
  ·rw [← hLL2]; exact F2.cons _ hled2
  ·intro j x hx
   rcases Uy hx with hx | ⟨_, rfl⟩
   ·exact h.terms j x hx
   ·exact Int.le_refl _
  ·intro T c hc; exact h.votel T c ((hvI _ _ _).1 hc)
  ·intro c; rw [show (Yt n).term = n.term from rfl, hvI]; exact h.vote c
  ·intro T v hv; exact h.stood T v ((hvI _ _ _).1 hv)
  ·intro j hj
   rw [hmt j hj, hnx, hbd2]
   split <;> omega
  ·intro hr; simp [Yt] at hr
  ·intro S k hk
   rcases hackI S k hk with hk | ⟨rfl, hk2⟩
   ·obtain ⟨h1, h2⟩ := h.acks S k hk
    obtain ⟨h5, h6⟩ := F.ackl _ _ _ hk
    refine ⟨h1, ?_⟩
    rcases h2 with h2 | ⟨t, h2, h3, h4, h7⟩
    ·exact .inl (E.agLL h5 h2).appR
    ·exact .inr ⟨t, h2, h3, E.led _ h4, by rw [E.CLld F h4]; exact E.nagLL h5 h6 h7⟩
   ·refine ⟨Int.le_refl _, .inl ?_⟩
    rw [hLL2]
    exact AG.refl (by rw [hlen1]; exact hk2)
 obtain ⟨H3, h1, h2, h3, h4⟩ := VI F2 N2 L2
 exact ⟨H3, l ++ [e], by simpa using hD.trans h1, h2, h3, h4⟩
theorem Cl (F : Qo H) (h : NI H i n l) (L : LI H i n l) (hi : i < 5) (e : En) (h0 : 0 ≤ e.conf) (h1 : e.conf ≤ 31)
  (hch : e.conf ≠ 0 → LE (QI H.c0 l) e.conf ∧ ∃ c n', H.cmt n.term c n' ∧ n' ≤ l.length ∧ ∀ j e', l[j]? = some e' → e'.conf ≠ 0 → j < c) :
  ∃ H' l', XC 1 i H H' ∧ Qo H' ∧ NI H' i (MV n e) l' ∧ LI H' i (MV n e) l' := by
 let e' : En := ⟨n.term, e.conf, e.cmd⟩
 have F1 : Qo (H.put n.term e') := RB F L.led rfl h0 h1 (by rw [← L.log]; exact hch)
 have E1 := Wb (H := H) (T := n.term) (e := e')
 have hLL : (H.put n.term e').LL n.term = l ++ [e'] := by rw [L.log]; exact if_pos rfl
 have hlen1 : (l ++ [e']).length = l.length + 1 := by simp
 have F2 := Uc (v := i) (k := l.length + 1) F1 (T := n.term) L.led (by rw [hLL, hlen1]; exact Nat.le_refl _) (fun t c hc => h.votel t c hc)
 have E2 := Js (H := H.put n.term e') (T := n.term) (v := i) (k := l.length + 1)
 have hD := (Cn (i := i) (e := e') F L.ld).trans (UV (T := n.term) (k := l.length + 1) (i := i) F1)
 have E := E1.trans E2
 generalize hH : (H.put n.term e').agree n.term i (l.length + 1) = H2 at *
 have hled2 : H2.led n.term := by rw [← hH]; exact L.led
 have hld2 : H2.ld n.term = i := by rw [← hH]; exact L.ld
 have hLL2 : H2.LL n.term = l ++ [e'] := by rw [← hH]; exact hLL
 have hack2 : ∀ k, k ≤ l.length + 1 → H2.ack n.term i k := fun k hk => by rw [← hH]; exact .inr ⟨rfl, rfl, hk⟩
 have hackI : ∀ S k, H2.ack S i k → H.ack S i k ∨ (S = n.term ∧ k ≤ l.length + 1) := by
  intro S k hk
  rw [← hH] at hk
  rcases hk with hk | ⟨h1, _, h2⟩
  ·exact .inl hk
  ·exact .inr ⟨h1, h2⟩
 have hackM : ∀ S v k, H.ack S v k → H2.ack S v k := E.ack
 have hvI : ∀ T v c, H2.vote T v c ↔ H.vote T v c := by intro T v c; rw [← hH]; exact Iff.rfl
 have hll := Xj.len F h.cons
 have hbd2 : H2.bd = H.bd + 1 := by rw [← hH]; rfl
 obtain ⟨b, hb, hbl, hlog, hbt, hbc⟩ := h.base
 obtain ⟨c, hc, hbc', hcl, hK⟩ := h.com
 have hlen : n.log.length = l.length - b := by rw [hlog, List.length_drop]
 have hnext : n.base + (n.log.length + 1) = ((l.length + 1 : Nat) : Int) := by omega
 have hidn : n.id.toNat = i := by rw [h.id]; rfl
 have hmt : ∀ j, j < 5 → (Z4 n e).mtch.get j = if j = i then ((l.length + 1 : Nat) : Int) else n.mtch.get j := fun j hj => by
  simp only [Z4, hidn, hnext]
  rw [J7 _ hi hj]
 have L2 : LI H2 i (Z4 n e) (l ++ [e']) := by
  refine ⟨hled2, hld2, hLL2.symm, fun j hj => ?_, fun j hj => ?_⟩
  ·rw [hmt j hj, hlen1]
   obtain ⟨g1, g2, g3⟩ := L.mt j hj
   split
   ·rename_i hji
    subst hji
    exact ⟨by omega, by omega, fun k _ hk => hack2 k (by omega)⟩
   ·exact ⟨g1, by omega, fun k h1 h2 => hackM _ _ _ (g3 k h1 h2)⟩
  ·have := L.nx j hj
   have e2 : (Z4 n e).next.get j = n.next.get j := rfl
   rw [hlen1, e2]
   omega
 have N2 : NI H2 i (Z4 n e) (l ++ [e']) := by
  refine { id := h.id, t0 := h.t0, t1 := h.t1, base := ?_, com := ?_, cons := ?_, terms := ?_, votel := ?_, vote := ?_, stood := ?_, votes0 := h.votes0, votes1 := h.votes1, sz := ?_, cand := ?_, lead := fun _ => L2, acks := ?_ }
  ·refine ⟨b, hb, by rw [hlen1]; omega, ?_, ?_, ?_⟩
   ·show n.log ++ [e'] = _
    rw [hlog, List.drop_append_of_le_length hbl]
   ·rw [Oi hbl]; exact hbt
   ·rw [List.take_append_of_le_length hbl, E.c0]; exact hbc
  ·exact ⟨c, hc, hbc', by rw [hlen1]; omega, (hK.ext F E).to ((AG.refl hcl).appR)⟩
  ·rw [← hLL2]; exact F2.cons _ hled2
  ·intro j x hx
   rcases Uy hx with hx | ⟨_, rfl⟩
   ·exact h.terms j x hx
   ·exact Int.le_refl _
  ·intro T c hc; exact h.votel T c ((hvI _ _ _).1 hc)
  ·intro c; rw [show (Z4 n e).term = n.term from rfl, hvI]; exact h.vote c
  ·intro T v hv; exact h.stood T v ((hvI _ _ _).1 hv)
  ·intro j hj
   have := h.sz j hj
   have e2 : (Z4 n e).next.get j = n.next.get j := rfl
   rw [hmt j hj, hbd2, e2]
   split <;> omega
  ·intro hr
   obtain ⟨_, h2, _⟩ := h.cand hr
   exact absurd ⟨L.led, L.ld⟩ h2
  ·intro S k hk
   rcases hackI S k hk with hk | ⟨rfl, hk2⟩
   ·obtain ⟨h1, h2⟩ := h.acks S k hk
    obtain ⟨h5, h6⟩ := F.ackl _ _ _ hk
    refine ⟨h1, ?_⟩
    rcases h2 with h2 | ⟨t, h2, h3, h4, h7⟩
    ·exact .inl (E.agLL h5 h2).appR
    ·exact .inr ⟨t, h2, h3, E.led _ h4, by rw [E.CLld F h4]; exact E.nagLL h5 h6 h7⟩
   ·refine ⟨Int.le_refl _, .inl ?_⟩
    rw [hLL2]
    exact AG.refl (by rw [hlen1]; exact hk2)
 obtain ⟨H3, h1, h2, h3, h4⟩ := VI F2 N2 L2
 exact ⟨H3, l ++ [e'], by simpa using hD.trans h1, h2, h3, h4⟩
theorem NI.tell (F : Qo H) (h : NI H i n l) (hr : n.role = 2) {nx mt : F5} (hn : ∀ j, j < 5 → 1 ≤ nx.get j ∧ nx.get j ≤ l.length + 1) (hm : ∀ j, j < 5 → 0 ≤ mt.get j ∧ mt.get j ≤ l.length ∧ ∀ k : Nat, 0 < k → (k : Int) ≤ mt.get j → H.ack n.term j k) :
  NI H i { n with next := nx, mtch := mt } l ∧ LI H i { n with next := nx, mtch := mt } l := by
 have L := h.lead hr
 have L' : LI H i { n with next := nx, mtch := mt } l := ⟨L.led, L.ld, L.log, hm, hn⟩
 have hlb := Xj.len F h.cons
 refine ⟨⟨h.id, h.t0, h.t1, h.base, h.com, h.cons, h.terms, h.votel, h.vote, h.stood, h.votes0, h.votes1, fun j hj => ?_, (fun hr' => by simp only at hr'; omega), fun _ => L', h.acks⟩, L'⟩
 have := hn j hj
 have := hm j hj
 simp only
 omega
theorem BX (F : Qo H) (h : NI H i n l) (hr : n.role = 2) {m : Ms} (M : MI H m) (hk : m.kind = 4) (hy : m.yes = true) (hT : m.term = n.term) : NI H i (Z9 n m) l ∧ LI H i (Z9 n m) l := by
 have L := h.lead hr
 obtain ⟨f, hf, hmf⟩ := M.frm
 obtain ⟨k, hidx, hack⟩ := M.k4 hk hy
 have hft : m.frm.toNat = f := by rw [hmf]; rfl
 have hkl : k ≤ l.length := by
  rcases Nat.eq_zero_or_pos k with h0 | h0
  ·omega
  ·have := (F.ackl _ _ _ (hack f hmf k h0 (Nat.le_refl _))).2
   rw [hT, ← L.log] at this; exact this
 have hmx := L.mt f hf
 refine h.tell F hr (fun j hj => ?_) (fun j hj => ?_)
 ·rw [hft, J7 _ hf hj]
  have := L.nx j hj
  split <;> omega
 ·rw [hft, J7 _ hf hj]
  split
  ·rename_i hjf
   subst hjf
   refine ⟨by omega, by omega, fun q h1 h2 => ?_⟩
   rcases Int.le_total m.index (n.mtch.get j) with h3 | h3
   ·exact hmx.2.2 q h1 (by omega)
   ·rw [← hT]
    exact hack j hmf q h1 (by omega)
  ·exact L.mt j hj
theorem Tj (F : Qo H) (h : NI H i n l) (hr : n.role = 2) {m : Ms} (M : MI H m) : NI H i (Zf n m) l ∧ LI H i (Zf n m) l := by
 have L := h.lead hr
 obtain ⟨f, hf, hmf⟩ := M.frm
 have hft : m.frm.toNat = f := by rw [hmf]; rfl
 refine h.tell F hr (fun j hj => ?_) L.mt
 rw [hft, J7 _ hf hj]
 have := L.nx j hj
 have := L.nx f hf
 have := L.mt f hf
 split <;> omega
theorem C4 (F : Qo H) (h : NI H i n l) (hi : i < 5) {m : Ms} (M : MI H m) (hk : m.kind = 4) : ∃ H', XC 0 i H H' ∧ Qo H' ∧ NI H' i (X9 n m).1 l ∧ ∀ x ∈ (X9 n m).2, MI H' x := by
 unfold X9
 split
 ·exact ⟨H, XC.refl i H, F, h, fun x hx => by cases hx⟩
 ·rename_i hc
  have hT : m.term = n.term := Classical.byContradiction fun h1 => hc (.inl h1)
  have hr : n.role = 2 := Classical.byContradiction fun h1 => hc (.inr h1)
  split
  ·rename_i hy
   obtain ⟨h1, h2⟩ := BX F h hr M hk hy hT
   obtain ⟨H', h3, h4, h5, _⟩ := VI F h1 h2
   exact ⟨H', h3, h4, h5, fun x hx => by cases hx⟩
  ·obtain ⟨h1, h2⟩ := Tj F h hr M
   split
   ·refine ⟨H, XC.refl i H, F, h1, fun x hx => ?_⟩
    rw [List.mem_singleton.1 hx]
    obtain ⟨f, hf, hmf⟩ := M.frm
    rw [hmf]
    exact CA F h1 h2 hi hf
   ·exact ⟨H, XC.refl i H, F, h1, fun x hx => by cases hx⟩
theorem NI.adopt (F : Qo H) (h : NI H i n l) (hr : n.role = 0) (hled : H.led n.term) {l' : List En} (hl' : l' = l ∨ ∃ q, l' = (H.LL n.term).take q) (hx : ∀ x, AG l (H.LL n.term) x → AG l' (H.LL n.term) x) :
  NI H i { n with log := l'.drop n.base.toNat } l' := by
 obtain ⟨b, hb, hbl, hlog, hbt, hbc⟩ := h.base
 obtain ⟨c, hc, hbc', hcl, hK⟩ := h.com
 have hKP := XL.ag F hled hK
 have hKl : AG l' (H.LL n.term) c := hx c hKP.symm
 have hll : AG l l' c := hKP.symm.trans hKl.symm
 have hbn : n.base.toNat = b := by omega
 refine { id := h.id, t0 := h.t0, t1 := h.t1, base := ?_, com := ?_, cons := ?_, terms := ?_, votel := h.votel, vote := h.vote, stood := h.stood, votes0 := h.votes0, votes1 := h.votes1, sz := h.sz, cand := (fun hr' => by simp only at hr'; omega), lead := (fun hr' => by simp only at hr'; omega), acks := ?_ }
 ·refine ⟨b, hb, by have := hll.2.1; omega, by rw [← hbn], ?_, ?_⟩
  ·rw [← (hll.le (show b ≤ c by omega)).tAt]; exact hbt
  ·rw [← (hll.le (show b ≤ c by omega)).2.2]; exact hbc
 ·exact ⟨c, hc, hbc', hKl.1, hK.to hll⟩
 ·rcases hl' with h1 | ⟨q, h1⟩
  ·rw [h1]; exact h.cons
  ·rw [h1]; exact (F.cons _ hled).take q
 ·intro j e he
  rcases hl' with h1 | ⟨q, h1⟩
  ·rw [h1] at he; exact h.terms j e he
  ·rw [h1, List.getElem?_take] at he
   split at he
   ·by_cases hj : j < H.EL n.term
    ·have := F.old _ j e hled he hj; simp only; omega
    ·have := F.own _ j e hled he (by omega); simp only; omega
   ·cases he
 ·intro S k hk
  obtain ⟨h1, h2⟩ := h.acks S k hk
  refine ⟨h1, ?_⟩
  rcases h2 with h2 | h2
  ·by_cases hP : AG (H.LL S) (H.LL n.term) k
   ·exact .inl (hP.trans (hx k (h2.symm.trans hP)).symm)
   ·have hS : S < n.term := by
     rcases Int.lt_or_eq_of_le h1 with h3 | h3
     ·exact h3
     ·rw [h3] at hP h2
      exact absurd (AG.refl h2.1) hP
    refine .inr ⟨n.term, hS, Int.le_refl _, hled, fun hcl => hP ?_⟩
    have h6 := F.cl _ hled
    exact hcl.trans (h6.1.le (by have := hcl.2.1; omega))
  ·exact .inr h2
theorem NI.reb (h : NI H i n l) {x c : Nat} {s : List UInt8} (hxc : x ≤ c) (hcl : c ≤ l.length) (hK : XL H n.term l c) :
  NI H i { n with base := x, baseTerm := tAt l x, baseConf := QI H.c0 (l.take x), snap := s, log := l.drop x, commit := c } l :=
 ⟨h.id, h.t0, h.t1, ⟨x, rfl, Nat.le_trans hxc hcl, rfl, rfl, rfl⟩, ⟨c, rfl, by simp only; omega, hcl, hK⟩, h.cons, h.terms, h.votel, h.vote, h.stood, h.votes0, h.votes1, h.sz, h.cand, fun hr => by
  have := h.lead hr
  exact ⟨this.led, this.ld, this.log, this.mt, this.nx⟩, h.acks⟩
theorem MQ (F : Qo H) (h : NI H i n l) (hi : i < 5) (hled : H.led n.term) {k : Nat} (hk : AG (H.LL n.term) l k) {to : Int} (hto : ∃ f : Nat, f < 5 ∧ to = f) {idx : Int} (hx : idx = (k : Nat)) :
  ∃ H', XC 0 i H H' ∧ Qo H' ∧ NI H' i n l ∧ MI H' (QG n to (XY true idx)) := by
 have F' := Uc (v := i) F hled hk.1 (fun t c hc => h.votel t c hc)
 refine ⟨H.agree n.term i k, UV F, F', ?_, ?_⟩
 ·refine h.ext F Js (fun _ _ h => h) (fun _ v h => ⟨v, h⟩) (fun _ h _ => h) ?_ (fun _ _ _ => rfl)
  rintro S x (hh | ⟨rfl, _, hh⟩)
  ·exact .inl hh
  ·exact .inr ⟨Int.le_refl _, hk.le hh⟩
 ·have := F.lbd _ hled
  have h3 := hk.1
  refine Vf h.id hi hto (by omega) (by show idx ≤ (H.bd : Nat); omega) (fun _ => ⟨k, hx, fun j _ hj => .inr ⟨rfl, rfl, hj⟩⟩)
theorem Eh (F : Qo H) (h : NI H i n l) {m : Ms} {P : List En} (hP : Xj H P) {b k : Nat} (hb : n.base = b) (hbk : b ≤ k) (hidx : m.index = k) (hlog : n.log = l.drop b) (h0 : AG l P k) (hes : m.entries = (P.drop k).take m.entries.length) (hle : k + m.entries.length ≤ P.length) :
  ∀ j, j ≤ m.entries.length → (XO n m j = l.drop b ∧ AG l P (k + j)) ∨ (XO n m j = (P.take (k + j)).drop b ∧ ∃ y, y < k + j ∧ ∀ x, AG l P x → x ≤ y)
 | 0, _ => .inl ⟨hlog, h0⟩
 | j + 1, hj => by
  have hPl : k + j < P.length := by omega
  have hPj : P[k + j]? = some P[k + j] := List.getElem?_eq_getElem hPl
  have hej : m.entries.getD j default = P[k + j] := by
   rw [hes, List.getD_eq_getElem?_getD, List.getElem?_take, if_pos (by omega), List.getElem?_drop, hPj]; rfl
  have hi1 : m.index - n.base + j = ((k - b + j : Nat) : Int) := by omega
  rw [XO, hej, hi1, Int.toNat_natCast]
  rcases Eh F h hP hb hbk hidx hlog h0 hes hle j (by omega) with ⟨h1, h2⟩ | ⟨h1, y, h2, h3⟩
  ·rw [h1]
   have hdl : (l.drop b).length = l.length - b := List.length_drop
   have hkl := h2.1
   by_cases hc : ((k - b + j : Nat) : Int) < ((l.drop b).length : Nat) ∧ ((l.drop b).getD (k - b + j) default).term = P[k + j].term
   ·rw [if_pos hc]
    have hlj : k + j < l.length := by omega
    have hl2 : l[k + j]? = some l[k + j] := List.getElem?_eq_getElem hlj
    refine .inl ⟨rfl, ?_⟩
    refine Xj.ag h.cons hP hl2 hPj ?_
    have := hc.2
    rw [List.getD_eq_getElem?_getD, List.getElem?_drop, show b + (k - b + j) = k + j by omega, hl2] at this
    exact this
   ·rw [if_neg hc]
    have hmin : (min ((k - b + j : Nat) : Int) ((l.drop b).length : Nat)).toNat = k - b + j := by omega
    refine .inr ⟨?_, k + j, by omega, fun x hx => ?_⟩
    ·rw [hmin, ← Nat.add_assoc, List.take_succ_eq_append_getElem hPl, List.drop_append_of_le_length (by rw [List.length_take]; omega), ← h2.2.2, List.drop_take, show k + j - b = k - b + j by omega]
    ·refine Nat.le_of_not_lt fun hlt => hc ?_
     have h5 := hx.get hlt
     have hlj : k + j < l.length := by have := hx.1; omega
     have hl2 : l[k + j]? = some l[k + j] := List.getElem?_eq_getElem hlj
     refine ⟨by omega, ?_⟩
     rw [List.getD_eq_getElem?_getD, List.getElem?_drop, show b + (k - b + j) = k + j by omega, h5, hPj]; rfl
  ·rw [h1]
   have hdl : ((P.take (k + j)).drop b).length = k - b + j := by rw [List.length_drop, List.length_take]; omega
   rw [if_neg (by rw [hdl]; omega)]
   refine .inr ⟨?_, y, by omega, h3⟩
   rw [hdl, Int.min_self, Int.toNat_natCast, List.take_of_length_le (by omega), ← Nat.add_assoc, List.take_succ_eq_append_getElem hPl, List.drop_append_of_le_length (by rw [List.length_take]; omega)]
theorem Nx (F : Qo H) (h : NI H i n l) (hi : i < 5) {m : Ms} (M : MI H m) (hk : m.kind = 3) (hT : m.term ≤ n.term) : ∃ H' l', XC 0 i H H' ∧ Qo H' ∧ NI H' i (Ud n m).1 l' ∧ ∀ x ∈ (Ud n m).2, MI H' x := by
 obtain ⟨hled, _, k, c, hidx, hcm, hle, hes, hlt, hK⟩ := M.k3 hk
 unfold Ud
 split
 ·refine ⟨H, l, XC.refl i H, F, h, fun x hx => ?_⟩
  rw [List.mem_singleton.1 hx]
  exact Vf h.id hi M.frm (by omega) (by omega) (fun h => by cases h)
 rename_i hlow
 have hTe : m.term = n.term := by omega
 rw [hTe] at hled hle hes hlt hK
 have hq : NI H i (Q0 n) l := h.quiet (w := 0)
 obtain ⟨b, hb, hbl, hlog, hbt, hbc⟩ := h.base
 obtain ⟨c0, hc0, hbc0, hcl0, hK0⟩ := h.com
 have hKP := XL.ag F hled hK0
 split
 ·obtain ⟨H', h1, h2, h3, h4⟩ := MQ F hq hi hled (k := b) (hKP.le (by omega)) (to := m.frm) M.frm (idx := n.base) hb
  exact ⟨H', l, h1, h2, h3, fun x hx => by rw [List.mem_singleton.1 hx]; exact h4⟩
 rename_i hbk
 have hlast := h.last
 split
 ·refine ⟨H, l, XC.refl i H, F, hq, fun x hx => ?_⟩
  rw [List.mem_singleton.1 hx]
  have := Xj.len F h.cons
  exact Vf hq.id hi M.frm (by omega) (by omega) (fun h => by cases h)
 rename_i hc
 have hkl : k ≤ l.length := by omega
 have htk : Go.Proofs.YtjbokbikkcfjjaaGreat.termF n m.index = m.logTerm := Classical.byContradiction fun h1 => hc (.inr h1)
 rw [hidx, h.termF (by omega) hkl, hlt] at htk
 have hPc := F.cons _ hled
 have h0 : AG l (H.LL n.term) k := Xj.agT h.cons hPc hkl (by omega) htk
 have hsp := Eh F h hPc hb (by omega) hidx hlog h0 hes hle m.entries.length (Nat.le_refl _)
 have hbn : n.base.toNat = b := by omega
 have key : ∃ l', XO n m m.entries.length = l'.drop b ∧ AG (H.LL n.term) l' (k + m.entries.length) ∧ NI H i { Q0 n with log := l'.drop b } l' := by
  rcases hsp with ⟨h1, h2⟩ | ⟨h1, y, h2, h3⟩
  ·refine ⟨l, h1, h2.symm, ?_⟩
   have := hq.adopt F rfl hled (l' := l) (.inl rfl) (fun x hx => hx)
   rwa [show (Q0 n).base.toNat = b from hbn] at this
  ·refine ⟨(H.LL n.term).take (k + m.entries.length), h1, AG.takeSelf hle, ?_⟩
   have := hq.adopt F rfl hled (l' := (H.LL n.term).take (k + m.entries.length)) (.inr ⟨_, rfl⟩) (fun x hx => ?_)
   ·rwa [show (Q0 n).base.toNat = b from hbn] at this
   ·have h4 := h3 x hx
    exact ((AG.refl hx.2.1).take (q := k + m.entries.length) (by omega)).symm
 obtain ⟨l', h1, h2, h3⟩ := key
 have hc' : ∃ c1 : Nat, (max n.commit (min m.commit (m.index + m.entries.length)) : Int) = c1 ∧ b ≤ c1 ∧ c1 ≤ l'.length ∧ XL H n.term l' c1 := by
  obtain ⟨c2, g1, g2, g3, g4⟩ := h3.com
  have g1' : n.commit = (c2 : Nat) := g1
  have hl2 := h2.2.1
  rcases Int.le_total n.commit (min m.commit (m.index + m.entries.length)) with h5 | h5
  ·refine ⟨min c (k + m.entries.length), by omega, by omega, by omega, ?_⟩
   exact (hK.le (Nat.min_le_left _ _)).to (h2.le (Nat.min_le_right _ _))
  ·exact ⟨c2, by omega, by omega, g3, g4⟩
 obtain ⟨c1, g1, g2, g3, g4⟩ := hc'
 have hN : NI H i (G8 n m) l' := by
  have := h3.to (c := c1) (by show n.base ≤ _; omega) g3 g4
  unfold G8
  rw [h1, g1]; exact this
 obtain ⟨H', e1, e2, e3, e4⟩ := MQ F hN hi hled (k := k + m.entries.length) h2 (to := m.frm) M.frm (idx := m.index + m.entries.length) (by omega)
 exact ⟨H', l', e1, e2, e3, fun x hx => by rw [List.mem_singleton.1 hx]; exact e4⟩
theorem Aj (F : Qo H) (h : NI H i n l) (hi : i < 5) {m : Ms} (M : MI H m) (hk : m.kind = 5) (hT : m.term ≤ n.term) : ∃ H' l', XC 0 i H H' ∧ Qo H' ∧ NI H' i (ZW n m).1 l' ∧ ∀ x ∈ (ZW n m).2, MI H' x := by
 obtain ⟨hled, _, k, hidx, hkP, hlt, hcf, hK⟩ := M.k5 hk
 unfold ZW
 split
 ·refine ⟨H, l, XC.refl i H, F, h, fun x hx => ?_⟩
  rw [List.mem_singleton.1 hx]
  exact Vf h.id hi M.frm (by omega) (by omega) (fun h => by cases h)
 rename_i hlow
 have hTe : m.term = n.term := by omega
 rw [hTe] at hled hkP hlt hcf hK
 have hq : NI H i (Q0 n) l := h.quiet (w := 0)
 obtain ⟨b, hb, hbl, hlog, hbt, hbc⟩ := h.base
 obtain ⟨c0, hc0, hbc0, hcl0, hK0⟩ := h.com
 have hKP := XL.ag F hled hK0
 have hPc := F.cons _ hled
 have hbn : n.base.toNat = b := by omega
 have hlast := h.last
 split
 ·rename_i hgt
  have key : ∃ l', Uu n m = l'.drop k ∧ AG (H.LL n.term) l' k ∧ NI H i { Q0 n with log := l'.drop b } l' := by
   by_cases hc : (m.index ≤ QT n ∧ n.base < m.index) ∧ Go.Proofs.YtjbokbikkcfjjaaGreat.termF n m.index = m.logTerm
   ·have hkl : k ≤ l.length := by omega
    have htk := hc.2
    rw [hidx, h.termF (by omega) hkl, hlt] at htk
    have h0 : AG l (H.LL n.term) k := Xj.agT h.cons hPc hkl hkP htk
    refine ⟨l, ?_, h0.symm, ?_⟩
    ·rw [Uu, if_pos hc, hlog, List.drop_drop, show b + (m.index - n.base).toNat = k by omega]
    ·have := hq.adopt F rfl hled (l' := l) (.inl rfl) (fun x hx => hx)
     rwa [show (Q0 n).base.toNat = b from hbn] at this
   ·refine ⟨(H.LL n.term).take k, ?_, AG.takeSelf hkP, ?_⟩
    ·rw [Uu, if_neg hc, List.drop_eq_nil_of_le (by rw [List.length_take]; omega)]
    ·have := hq.adopt F rfl hled (l' := (H.LL n.term).take k) (.inr ⟨_, rfl⟩) (fun x hx => ?_)
     ·rwa [show (Q0 n).base.toNat = b from hbn] at this
     ·have hxk : x ≤ k := by
       refine Nat.le_of_not_lt fun hlt2 => hc ?_
       have h5 := hx.le (show k ≤ x by omega)
       have h6 := h5.1
       refine ⟨⟨by omega, by omega⟩, ?_⟩
       rw [hidx, h.termF (by omega) h6, h5.tAt, hlt]
       rfl
      exact ((AG.refl hx.2.1).take (q := k) hxk).symm
  obtain ⟨l', h1, h2, h3⟩ := key
  have hN : NI H i (J1 n m) l' := by
   have := h3.reb (x := k) (c := k) (s := m.snap) (Nat.le_refl _) h2.2.1 (hK.to h2)
   unfold J1
   rw [h1, hidx, hlt, hcf, h2.tAt, h2.2.2]
   exact this
  obtain ⟨H', e1, e2, e3, e4⟩ := MQ F hN hi hled (k := k) h2 (to := m.frm) M.frm (idx := max m.index n.commit) (by omega)
  exact ⟨H', l', e1, e2, e3, fun x hx => by rw [List.mem_singleton.1 hx]; exact e4⟩
 ·rename_i hgt
  obtain ⟨H', e1, e2, e3, e4⟩ := MQ F hq hi hled (k := c0) hKP (to := m.frm) M.frm (idx := max m.index n.commit) (by omega)
  exact ⟨H', l, e1, e2, e3, fun x hx => by rw [List.mem_singleton.1 hx]; exact e4⟩
end Raft
namespace Raft
variable {H : Xm} {i : Nat} {n : Nd} {l : List En}
def V5 (k i : Nat) (H : Xm) (n' : Nd) (out : List Ms) : Prop := ∃ H' l', XC k i H H' ∧ Qo H' ∧ NI H' i n' l' ∧ ∀ x ∈ out, MI H' x
theorem XC.le {a b : Nat} {H' : Xm} (h : XC a i H H') (hab : a ≤ b) : XC b i H H' := ⟨h.ext, h.oth, by have := h.bd; omega⟩
theorem T4 : ∀ v : Fin 32, ∀ f : Fin 5, (orI v.val ((2 ^ f.val : Nat) : Int)).toNat < 32 ∧ ∀ j : Fin 5, (orI v.val ((2 ^ f.val : Nat) : Int)).toNat.testBit j.val = (v.val.testBit j.val || decide (j.val = f.val)) := by decide +kernel
theorem DS (f : Nat) : (2 : Int) ^ f = ((2 ^ f : Nat) : Int) := by
 induction f with
 | zero => rfl
 | succ f ih => rw [Int.pow_succ, ih, Nat.pow_succ]; omega
theorem Ro (F : Qo H) (h : NI H i n l) (hi : i < 5) (ht : n.term < 1073741824) : V5 1 i H (Yn n).1 (Yn n).2 := by
 obtain ⟨H1, h1, h2, h3, h4, h5⟩ := IZ F h hi ht
 have hidn : n.id.toNat = i := by rw [h.id]; rfl
 unfold Yn
 split
 ·rename_i hm
  rw [hidn, DS] at hm
  have hlt : 2 ^ i < 32 := by
   have : 2 ^ i < 2 ^ 5 := Nat.pow_lt_pow_right (by decide) hi
   simpa using this
  obtain ⟨H2, l', g1, g2, g3, g4⟩ := EW h2 h3 hi rfl ⟨2 ^ i, hlt, hm, h5⟩
  exact ⟨H2, l', by simpa using h1.trans g1, g2, g3, M5 g2 g3 g4 hi⟩
 ·refine ⟨H1, l, h1.le (by decide), h2, h3, fun x hx => ?_⟩
  obtain ⟨to, hto, rfl⟩ := Zr (n := QC n) (F := fun to => QG (QC n) to (UT (QT n) (termF n (QT n)))) (k := 5) hx
  exact h4 to hto
theorem DG (F : Qo H) (h : NI H i n l) (hi : i < 5) : V5 1 i H (Xw n).1 (Xw n).2 := by
 unfold Xw
 split
 ·rename_i hr
  exact ⟨H, l, (XC.refl i H).le (by decide), F, h, M5 F h (h.lead hr) hi⟩
 ·split
  ·exact ⟨H, l, (XC.refl i H).le (by decide), F, h, fun x hx => by cases hx⟩
  ·split
   ·rename_i hc
    exact Ro F (h.still (w := n.wait + 1)) hi hc.2
   ·exact ⟨H, l, (XC.refl i H).le (by decide), F, h.still (w := n.wait + 1), fun x hx => by cases hx⟩
theorem Rg (F : Qo H) (h : NI H i n l) (hi : i < 5) {m : Ms} (M : MI H m) (hk : m.kind = 2) (hto : m.to = n.id) : V5 1 i H (Ym n m).1 (Ym n m).2 := by
 unfold Ym
 split
 ·exact ⟨H, l, (XC.refl i H).le (by decide), F, h, fun x hx => by cases hx⟩
 ·rename_i hc
  have hT : m.term = n.term := Classical.byContradiction fun h1 => hc (.inl (.inl h1))
  have hr : n.role = 1 := Classical.byContradiction fun h1 => hc (.inl (.inr h1))
  have hy : m.yes = true := Classical.byContradiction fun h1 => hc (.inr h1)
  obtain ⟨f, hf, hmf⟩ := M.frm
  have hv := M.k2 hk hy f i hmf (by rw [hto, h.id])
  rw [hT] at hv
  have hft : m.frm.toNat = f := by rw [hmf]; rfl
  have hv0 := h.votes0
  have hv1 := h.votes1
  obtain ⟨v, hvv⟩ : ∃ v : Nat, n.votes = v := ⟨n.votes.toNat, by omega⟩
  have hob := T4 ⟨v, by omega⟩ ⟨f, hf⟩
  simp only at hob
  obtain ⟨hcl, hcn, hci, hcb⟩ := h.cand hr
  have hor : orI n.votes (2 ^ m.frm.toNat) = ((orI v ((2 ^ f : Nat) : Int)).toNat : Int) := by
   rw [hft, DS, hvv]
   have : 0 ≤ orI v ((2 ^ f : Nat) : Int) := by unfold orI; omega
   omega
  have hvs : ∀ j, j < 5 → (orI v ((2 ^ f : Nat) : Int)).toNat.testBit j = true → H.vote n.term j i := fun j hj hb => by
   rw [hob.2 ⟨j, hj⟩, Bool.or_eq_true] at hb
   rcases hb with hb | hb
   ·exact hcb j hj (by rw [hvv, Int.toNat_natCast]; exact hb)
   ·have hjf : j = f := of_decide_eq_true hb
    rw [hjf]; exact hv
  have hN : NI H i (XP n m) l := by
   refine ⟨h.id, h.t0, h.t1, h.base, h.com, h.cons, h.terms, h.votel, h.vote, h.stood, ?_, ?_, h.sz, fun hr' => ⟨hcl, hcn, hci, fun j hj hb => ?_⟩, fun hr' => ?_, h.acks⟩
   ·simp only [XP, hor]; omega
   ·simp only [XP, hor]; have := hob.1; omega
   ·simp only [XP, hor, Int.toNat_natCast] at hb
    exact hvs j hj hb
   ·simp only [XP] at hr'; omega
  split
  ·rename_i hm
   rw [hor] at hm
   obtain ⟨H2, l', g1, g2, g3, g4⟩ := EW F hN hi hr ⟨_, hob.1, hm, hvs⟩
   exact ⟨H2, l', g1, g2, g3, M5 g2 g3 g4 hi⟩
  ·exact ⟨H, l, (XC.refl i H).le (by decide), F, hN, fun x hx => by cases hx⟩
theorem Wp (F : Qo H) (h : NI H i n l) (hi : i < 5) {m : Ms} (M : MI H m) : V5 1 i H (Xn n m).1 (Xn n m).2 := by
 unfold Xn
 split
 ·exact ⟨H, l, (XC.refl i H).le (by decide), F, h, fun x hx => by cases hx⟩
 rename_i hb
 have hto : m.to = n.id := Classical.byContradiction fun h1 => hb (.inl (.inr h1))
 have hfi : m.frm ≠ n.id := fun h1 => hb (.inl (.inl (.inr h1)))
 have hk5 : ¬ (m.kind < 1 ∨ 5 < m.kind) := fun h1 => hb (.inr (.inl (.inl h1)))
 have ht : ¬ 1073741824 < m.term := fun h1 => hb (.inr (.inr h1))
 have hu : NI H i (upN n m) l := h.up (by omega)
 have huid : (upN n m).id = n.id := by rw [hu.id, h.id]
 have htm : m.term ≤ (upN n m).term := by rw [Ab]; omega
 unfold LJ
 split
 ·rename_i hk
  obtain ⟨H', h1, h2, h3, h4⟩ := B8 F hu hi M hk (by rw [huid]; exact hfi)
  exact ⟨H', l, h1.le (by decide), h2, h3, fun x hx => by rw [List.mem_singleton.1 hx]; exact h4⟩
 split
 ·rename_i hk
  exact Rg F hu hi M hk (by rw [huid]; exact hto)
 split
 ·rename_i hk
  obtain ⟨H', l', h1, h2, h3, h4⟩ := Nx F hu hi M hk htm
  exact ⟨H', l', h1.le (by decide), h2, h3, h4⟩
 split
 ·rename_i hk
  obtain ⟨H', h1, h2, h3, h4⟩ := C4 F hu hi M hk
  exact ⟨H', l, h1.le (by decide), h2, h3, h4⟩
 ·obtain ⟨H', l', h1, h2, h3, h4⟩ := Aj F hu hi M (by omega) htm
  exact ⟨H', l', h1.le (by decide), h2, h3, h4⟩
theorem DR (F : Qo H) (h : NI H i n l) (hi : i < 5) (cmd : List UInt8) : V5 1 i H (XD n cmd).1 [] := by
 unfold XD
 split
 ·exact ⟨H, l, (XC.refl i H).le (by decide), F, h, fun x hx => by cases hx⟩
 rename_i hr
 split
 ·exact ⟨H, l, (XC.refl i H).le (by decide), F, h, fun x hx => by cases hx⟩
 ·obtain ⟨H', l', h1, h2, h3, h4⟩ := Cl F h (h.lead (Classical.not_not.1 hr)) hi ⟨0, 0, cmd⟩ (by simp) (by simp) (by simp)
  exact ⟨H', l', h1, h2, h3, fun x hx => by cases hx⟩
theorem AR : ∀ c d : Fin 32, Uq (Lu d.val c.val) = 1 → ∃ i : Fin 5, d.val = c.val ^^^ 2 ^ i.val := by decide +kernel
theorem Li (F : Qo H) (h : NI H i n l) (hi : i < 5) (conf : Int) : V5 1 i H (QS n conf).1 [] := by
 unfold QS
 split
 ·exact ⟨H, l, (XC.refl i H).le (by decide), F, h, fun x hx => by cases hx⟩
 rename_i hr
 split
 ·exact ⟨H, l, (XC.refl i H).le (by decide), F, h, fun x hx => by cases hx⟩
 rename_i hc
 split
 ·exact ⟨H, l, (XC.refl i H).le (by decide), F, h, fun x hx => by cases hx⟩
 rename_i he
 have L := h.lead (Classical.not_not.1 hr)
 have hcb : 1 ≤ conf ∧ conf ≤ 31 := by omega
 have hone : Uq (Lu conf (Qx n).2) = 1 := Classical.byContradiction fun h1 => hc (.inr h1)
 have hat : (Qx n).1 ≤ n.commit := by
  have := fun h1 => he (.inl h1)
  omega
 have htm : Go.Proofs.YtjbokbikkcfjjaaGreat.termF n n.commit = n.term := Classical.byContradiction fun h1 => he (.inr h1)
 obtain ⟨c, hcc, hbc, hcl, hK⟩ := h.com
 have hcr := F.conf l h.cons
 rw [h.conf] at hone
 rw [hcc, h.termF hbc hcl] at htm
 have hp := F.pos _ L.led
 obtain ⟨H', l', h1, h2, h3, h4⟩ := Cl F h L hi ⟨0, conf, []⟩ (by simp only; omega) (by simp only; omega) (fun _ => by
  refine ⟨⟨hcr.1, hcr.2, by simp only; omega, by simp only; omega, .inr ?_⟩, ?_⟩
  ·obtain ⟨x, hx⟩ : ∃ x : Nat, QI H.c0 l = x := ⟨(QI H.c0 l).toNat, by omega⟩
   obtain ⟨y, hy⟩ : ∃ y : Nat, conf = y := ⟨conf.toNat, by omega⟩
   rw [hx, hy] at hone
   obtain ⟨q, hq⟩ := AR ⟨x, by omega⟩ ⟨y, by omega⟩ hone
   refine ⟨q.val, q.isLt, ?_⟩
   rw [hx, hy]
   exact hq
  ·rcases hK with hK | ⟨S, k, n', g1, g2, g3, g4⟩
   ·rw [hK] at htm
    have : (0 : Int) = n.term := htm
    omega
   ·have hc0 : 0 < c := Nat.pos_of_ne_zero fun h0 => by
     rw [h0] at htm
     have : (0 : Int) = n.term := htm
     omega
    have g5 := F.com _ _ _ g1
    have hSl : ∃ e, (H.LL S)[c - 1]? = some e := ⟨(H.LL S)[c - 1]'(by have := g4.1; omega), List.getElem?_eq_getElem _⟩
    obtain ⟨e, he⟩ := hSl
    have het : e.term = n.term := by
     rw [← g4.tAt] at htm
     obtain ⟨c', rfl⟩ : ∃ c', c = c' + 1 := ⟨c - 1, by omega⟩
     simp only [Nat.add_sub_cancel] at he
     simp only [tAt, List.getD_eq_getElem?_getD, he, Option.getD_some] at htm
     exact htm
    have hS : S = n.term := by
     by_cases hlt : c - 1 < H.EL S
     ·have := F.old S _ e g5.1 he hlt; omega
     ·have := F.own S _ e g5.1 he (by omega); omega
    rw [hS] at g1 g5
    refine ⟨k, n', g1, by rw [L.log]; exact g5.2.2.2.1, fun j e' hj hcj => ?_⟩
    have := h.confAt hj hcj
    omega)
 exact ⟨H', l', h1, h2, h3, fun x hx => by cases hx⟩
end Raft
end Go.Proofs.YtjbokbikkcfjjaaGreat
