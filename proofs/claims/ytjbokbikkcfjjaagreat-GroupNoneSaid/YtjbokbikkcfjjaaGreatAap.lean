/-
  replica: what most members hold is committed.
-/
import Derived.Test.YtjbokbikkcfjjaaGreatAao
set_option maxRecDepth 16000
set_option maxHeartbeats 8000000
set_option linter.all false
namespace Go.Proofs.YtjbokbikkcfjjaaGreat
open Go.Cap
attribute [local irreducible] POp Qf Bv EOp Sim FnH T.gp
def Za (f : F5) (idx : Int) : Nat → Int
 | 0 => 0
 | k + 1 => Za f idx k + (if idx ≤ f.get k then 2 ^ k else 0)
theorem WJ (f : F5) (idx : Int) : ∀ k, 0 ≤ Za f idx k ∧ Za f idx k < 2 ^ k
 | 0 => by simp [Za]
 | k + 1 => by
  have := WJ f idx k
  rw [Za, Int.pow_succ]
  split <;> omega
theorem RB {x : Int} : ∀ {k : Nat}, k < 5 → 0 ≤ x → x < 2 ^ k → bOr .i64 x (Y1 .i64 1 (IntKind.u64.wrap k)) = x + 2 ^ k := by
 have key : ∀ k : Fin 5, ∀ i : Fin 32, (i.val : Int) < 2 ^ k.val → bOr .i64 i.val (Y1 .i64 1 (IntKind.u64.wrap (k.val : Nat))) = i.val + 2 ^ k.val := by decide
 intro k hk h0 h1
 have h2 : (2 : Int) ^ k ≤ 16 := by
  rcases (by omega : k = 0 ∨ k = 1 ∨ k = 2 ∨ k = 3 ∨ k = 4) with rfl | rfl | rfl | rfl | rfl <;> decide
 obtain ⟨i, rfl⟩ := D5 h0 (by omega)
 exact key ⟨k, hk⟩ i h1
def f5C (f : F5) : List T := [ei f.a, ei f.b, ei f.c, ei f.d, ei f.e]
theorem Bg (f : F5) {k : Nat} (hk : k < 5) : (f5C f)[(k : Int).toNat]? = some (ei (f.get k)) := by
 rcases (by omega : k = 0 ∨ k = 1 ∨ k = 2 ∨ k = 3 ∨ k = 4) with rfl | rfl | rfl | rfl | rfl <;> rfl
def Yh (n : Nd) (conf : Int) : Nat → Int
 | 0 => n.commit
 | k + 1 => if (n.log.getD k default).term = n.term ∧ UH conf (Za n.mtch (n.base + k + 1) 5) then max (Yh n conf k) (n.base + k + 1) else Yh n conf k
def Q2 (n : Nd) : Nd :=
 if ¬ isF (QK n).2 n.id ∧ (QK n).1 ≤ Yh n (QK n).2 n.log.length then { n with commit := Yh n (QK n).2 n.log.length, role := 0, wait := 0 } else { n with commit := Yh n (QK n).2 n.log.length }
theorem D7 (l : List En) {k : Nat} (h : k < l.length) : (l.map een)[k]? = some (een (l.getD k default)) := by simp [h]
theorem OG (conf id : Int) (h0 : 0 ≤ id) (h1 : id < 5) (h2 : 0 ≤ conf) (h3 : conf ≤ 31) : FnP Tryz.prog 107 [ei conf, ei id] (fun r => r = .v (.bool (decide (isF conf id = true)))) := by
 have := IW conf id h0 h1 h2 h3
 simpa [eB] using this
theorem Wz {b : Nat} {n : Nd} {out : List Ms} {H : Qb} (hn : Bd n) (hw : WkH b n out H) :
  FnH Tryz.prog 144 [pW b] H (fun r H' => r = .tup [] ∧ WkH b (Q2 n) out H') := by
 have hC := Ea n (by have := hn.log; omega) (by have := hn.base0; omega) (by have := hn.base1; omega)
 have hlog := hn.log
 have hb0 := hn.base0
 have hb1 := hn.base1
 refine fe Tryz.func144 fun S0 w0 => ?_
 show Sim _ _ [(0, pW b)] _ _
 obtain ⟨vl, vo, Hl, Ho, h1, h2, rfl⟩ := hw
 obtain ⟨p, c, rfl⟩ := h1.len
 obtain ⟨q, d, rfl⟩ := h2.len
 refine zC ?_
 refine cr <| s_ Qa <| s_ Qe <| s_ Qd <| s_ (Vd hC (Qg.cons (W4 h1 (by intro p hp; simp [hp]) List.mem_cons_self) Qg.nil)) <| s_ Qa <| s_ QH <| s_ QH <| s_ Qc <| s_ Qc <| zC ?_
 refine cr <| s_ Qa <| s_ Qe <| s_ Qd <| s_ Qd <| s_ Qn ?_
 (first | refine s_ QR ?_ | refine s_ QP ?_)
 refine s_ Qa <| zC ?_
 have hc0 := hn.conf0
 have hc1 := hn.conf1
 generalize hcf : (QK n).2 = conf at hc0 hc1 ⊢
 generalize hat : (QK n).1 = at_
 apply Qt (σ := Nat) (ok := fun k => k ≤ n.log.length) (env := fun k => [(23, ei (k : Nat)), (22, ei ((n.log.map een).length : Nat)), (21, .v (.slice p (n.log.map een).length c)), (2, ei at_), (3, ei conf), (0, pW b)])
  (heap := fun k => (b, ⟨tW, wkC { n with commit := Yh n conf k } (.slice p (n.log.map een).length c) (.slice q (out.map ms).length d), 23⟩) :: (Hl ++ (Ho ++ []))) (μ := fun k => n.log.length - k) (s0 := 0)
 ·exact Nat.zero_le _
 ·exact eL
 ·exact kR
 intro k hk
 refine zC ?_
 refine cr <| s_ QX <| zC ?_
 refine ci ?_ ?_
 ·intro hlt
  simp only [List.length_map] at hlt
  have hkl : k < n.log.length := by omega
  have hrow : ∃ bl, p = some ⟨bl, 0, none⟩ ∧ Hl = [(bl, (⟨tE, (n.log.map een).flatMap T.cells, c * 3⟩ : Blk))] := by
   rcases h1 with ⟨h, _⟩ | ⟨bl, c', e, _, rfl⟩
   ·have : n.log = [] := by simpa using h
    rw [this] at hkl; simp at hkl
   ·cases e; exact ⟨bl, rfl, rfl⟩
  obtain ⟨bl, rfl, rfl⟩ := hrow
  refine zC ?_
  refine cr <| s_ Qa ?_
  (first | refine s_ (Xu hix) ?_ | refine s_ (Xu hix2) ?_ | refine s_ Zz ?_ | refine s_ Jw ?_)
  refine s_ (Xp (hc := Xk.flat (Gg n.log) (D7 n.log hkl))) ?_
  refine Yt fun b5 _ => ?_
  refine s_ Qc <| QC ?_
  refine zC ?_
  refine cr <| s_ Qa <| s_ Qe <| s_ Qd <| s_ Qd <| s_ Qn <| s_ Qa <| s_ Q5 <| s_ Q5 <| s_ Qc <| s_ Qc <| zC ?_
  refine cr <| s_ Qa <| s_ Qe <| s_ Qd <| s_ Qd <| s_ Xp <| s_ Qa <| zC ?_
  apply Qt (σ := Nat) (ok := fun j => j ≤ 5) (env := fun j => [(41, ei (j : Nat)), (40, .agg (f5C n.mtch)), (7, ei (Za n.mtch (n.base + k + 1) j)), (6, ei (n.base + k + 1)), (5, .v (.pointer (some ⟨b5, 0, none⟩))), (23, ei (k : Nat)), (22, ei ((n.log.map een).length : Nat)), (21, .v (.slice (some ⟨bl, 0, none⟩) (n.log.map een).length c)), (2, ei at_), (3, ei conf), (0, pW b)])
   (heap := fun _ => (b5, ⟨tE, (een (n.log.getD k default)).cells, 3⟩) :: (b, ⟨tW, wkC { n with commit := Yh n conf k } (.slice (some ⟨bl, 0, none⟩) (n.log.map een).length c) (.slice q (out.map ms).length d), 23⟩) :: ([(bl, (⟨tE, (n.log.map een).flatMap T.cells, c * 3⟩ : Blk))] ++ (Ho ++ []))) (μ := fun j => 5 - j) (s0 := 0)
  ·exact Nat.zero_le _
  ·exact eL
  ·exact kR
  ·intro j hj
   refine zC ?_
   refine cr <| s_ QX <| zC ?_
   refine ci ?_ ?_
   ·intro hj5
    have hj5' : j < 5 := by omega
    have ix_a := Bg n.mtch hj5'
    have hbd := WJ n.mtch (n.base + k + 1) j
    have hwj := Z5 (x := (j : Nat)) (by omega) (by omega)
    have hor := RB hj5' hbd.1 hbd.2
    refine zC ?_
    refine cr <| s_ Qa <| s_ (BA (by first | exact ix_a | rfl)) <| s_ Qc <| s_ Qc <| zC ?_
    refine cr <| s_ Qa <| s_ Qa <| s_ Vc <| zC ?_
    refine ci ?_ ?_
    ·intro hge
     have hs : Za n.mtch (n.base + k + 1) (j + 1) = bOr .i64 (Za n.mtch (n.base + k + 1) j) (Y1 .i64 1 (IntKind.u64.wrap j)) := by rw [hor, Za, if_pos hge]
     refine zC ?_
     refine cr <| s_ Qa <| s_ Qa <| s_ X3 <| s_ J7 <| s_ UG <| s_ Qc <| zC ?_
     refine cr <| s_ Q5 <| s_ Qa <| zC ?_
     exact ⟨j + 1, by omega, by show 5 - (j + 1) < 5 - j; omega, ⟨Qk (by rfl) (Le.refl _), Qk (by (exact zG)) (Le.refl _), Qk (by (exact zG)) (Le.of_eq (by rw [hs]; rfl)), eL⟩, kR⟩
    ·intro hge
     have hs : Za n.mtch (n.base + k + 1) (j + 1) = Za n.mtch (n.base + k + 1) j := by rw [Za, if_neg hge]; omega
     refine zC ?_
     refine cr <| s_ Q5 <| s_ Qa <| zC ?_
     exact ⟨j + 1, by omega, by show 5 - (j + 1) < 5 - j; omega, ⟨Qk (by rfl) (Le.refl _), Qk (by (exact zG)) (Le.refl _), Qk (by (exact zG)) (Le.of_eq (by rw [hs])), eL⟩, kR⟩
   ·intro hj5
    have : j = 5 := by omega
    subst this
    have hm5 := WJ n.mtch (n.base + k + 1) 5
    have hmost := W6 conf (Za n.mtch (n.base + k + 1) 5) hm5.1 (by omega) hc0 hc1
    refine zC ?_
    refine ca [0, 1, 2, 3, 4, 5, 6, 7, 8, 9, 10, 11, 12] [] <| a_ (fun _ => Qd) <| QF ?_
    refine a_ (fun _ => Qa) <| a_ (fun _ => Qe) <| a_ (fun _ => Qd) <| a_ (fun _ => Qd) <| QF ?_
    refine a_ (fun _ => Xy) <| a_ (fun _ => Qa) <| Qy (fun _ hg => Qa) ?_
    refine Qy (fun _ hg => Qa) ?_
    refine Qy (fun _ hg => QM (hmost) (ha' := by apply Qp (u_ hg); apply Qp (u_ hg); exact Xj)) ?_
    refine a_ (fun _ => Xz) ?_
    apply an
    refine zC ?_
    refine ci ?_ ?_
    ·intro hc
     refine zC ?_
     refine cr <| s_ Qa <| s_ Qa <| s_ Qe <| s_ Qd <| s_ Qd <| s_ Qn <| s_ Qa <| s_ LX <| s_ Qe <| s_ Qd <| s_ Qd <| QC ?_
     refine zC ?_
     refine cr <| s_ Q5 <| s_ Qa <| zC ?_
     refine ⟨k + 1, by omega, by show n.log.length - (k + 1) < n.log.length - k; omega, ⟨Qk (by rfl) (Le.refl _), eL⟩, ?_⟩
     have hs : Yh n conf (k + 1) = max (Yh n conf k) (n.base + k + 1) := by rw [Yh, if_pos ⟨hc.1, decide_eq_true hc.2⟩]
     dsimp only
     rw [hs]
     exact kS kR
    ·intro hc
     refine zC ?_
     refine cr <| s_ Q5 <| s_ Qa <| zC ?_
     refine ⟨k + 1, by omega, by show n.log.length - (k + 1) < n.log.length - k; omega, ⟨Qk (by rfl) (Le.refl _), eL⟩, ?_⟩
     have hs : Yh n conf (k + 1) = Yh n conf k := by rw [Yh, if_neg fun h => hc ⟨h.1, of_decide_eq_true h.2⟩]
     dsimp only
     rw [hs]
     exact kS kR
 ·intro hlt
  simp only [List.length_map] at hlt
  have : k = n.log.length := by omega
  subst this
  have hi := OG conf n.id hn.id0 hn.id5 hc0 hc1
  refine zC ?_
  refine cr <| s_ Qa <| s_ Qa <| s_ Qe <| s_ Qd <| s_ Qd <| s_ Qn <| s_ (QM (hi)) <| s_ XY <| s_ Qa <| gT (fun hg => Qa) ?_
  refine gT (fun hg => Qa) ?_
  refine gT (fun hg => Qe (hx := u_ hg)) ?_
  refine gT (fun hg => Qd (hx := u_ hg)) ?_
  refine gT (fun hg => Qd (hx := u_ hg)) ?_
  refine gT (fun hg => Qn (hx := u_ hg)) ?_
  refine gT (fun hg => Of (hx := u_ hg) (hy := u_ hg)) ?_
  refine s_ Xz <| zC ?_
  refine ci ?_ ?_
  ·intro hc
   refine zC ?_
   refine cr <| s_ Qa <| s_ Qa <| s_ Qe <| s_ Qd <| s_ Qd <| QC ?_
   refine s_ Qe <| s_ Qd <| s_ Qd <| QC ?_
   refine zC ?_
   refine rhn kR ⟨rfl, ?_⟩ (Le.refl _)
   have e : Q2 n = { n with commit := Yh n conf n.log.length, role := 0, wait := 0 } := by rw [Q2, hcf, hat, if_pos hc]
   rw [e]
   exact ⟨_, _, Hl, Ho, h1, h2, rfl⟩
  ·intro hc
   refine zC ?_
   refine rhn kR ⟨rfl, ?_⟩ (Le.refl _)
   have e : Q2 n = { n with commit := Yh n conf n.log.length } := by rw [Q2, hcf, hat, if_neg hc]
   rw [e]
   exact ⟨_, _, Hl, Ho, h1, h2, rfl⟩
def Vy (f : F5) (v : Int) : Nat → F5
 | 0 => f
 | k + 1 => (Vy f v k).set k v
def Jh (n : Nd) : Nd := { n with role := 2, log := n.log ++ [⟨n.term, 0, []⟩], next := .all (n.base + (n.log.length + 1)), mtch := (F5.all 0).set n.id.toNat (n.base + (n.log.length + 1)) }
def Xr (n : Nd) : Nd := Q2 (Jh n)
theorem Lb (l : List En) (e : En) : ∀ k, k ≤ l.length → lc (l ++ [e]) k = lc l k
 | 0, _ => rfl
 | k + 1, h => by
  have hk : k < l.length := by omega
  have : (l ++ [e]).getD k default = l.getD k default := by simp [List.getD_eq_getElem?_getD, List.getElem?_append_left hk]
  rw [lc, lc, this, Lb l e k (by omega)]
theorem Re (n : Nd) (e : En) (he : e.conf = 0) (r : Int) (f g : F5) : QK { n with role := r, log := n.log ++ [e], next := f, mtch := g } = QK n := by
 have h1 : lc (n.log ++ [e]) (n.log ++ [e]).length = lc n.log n.log.length := by
  rw [List.length_append, List.length_singleton, lc]
  have : (n.log ++ [e]).getD n.log.length default = e := by simp [List.getD_eq_getElem?_getD]
  rw [this, if_neg (by simpa using he), Lb _ _ _ (Nat.le_refl _)]
 simp only [QK, h1]
theorem VH (n : Nd) : ∃ c r w, Q2 n = { n with commit := c, role := r, wait := w } := by
 unfold Q2
 split <;> exact ⟨_, _, _, rfl⟩
theorem Bd.commit {n : Nd} (h : Bd n) : Bd (Q2 n) := by
 obtain ⟨c, r, w, e⟩ := VH n
 rw [e]
 exact ⟨h.id0, h.id5, h.log, h.base0, h.base1, h.conf0, h.conf1⟩
theorem Bd.lead {n : Nd} (h : Bd n) (hl : n.log.length < 100000000) : Bd (Jh n) := by
 have hc : QK (Jh n) = QK n := Re n _ rfl _ _ _
 exact ⟨h.id0, h.id5, by simp [Jh]; omega, h.base0, h.base1, by rw [hc]; exact h.conf0, by rw [hc]; exact h.conf1⟩
theorem ZE (v : Int) : (ei v).cells.length = 1 := rfl
theorem Jm (n : Nd) (vl vo : Value) : (wkC n vl vo).length = 23 := rfl
theorem ET {n : Nd} {vl vo : Value} {k : Nat} (hk : k < 5) (v : Int) : lay (wkC n vl vo) (0 + 0 + 12 + (k : Int).toNat * 1) (T.v (.int .i64 v)).cells = wkC { n with next := n.next.set k v } vl vo := by
 rcases (by omega : k = 0 ∨ k = 1 ∨ k = 2 ∨ k = 3 ∨ k = 4) with rfl | rfl | rfl | rfl | rfl <;> rfl
theorem EV {n : Nd} {vl vo : Value} {k : Nat} (hk : k < 5) (v : Int) : lay (wkC n vl vo) (0 + 0 + 17 + (k : Int).toNat * 1) (T.v (.int .i64 v)).cells = wkC { n with mtch := n.mtch.set k v } vl vo := by
 rcases (by omega : k = 0 ∨ k = 1 ∨ k = 2 ∨ k = 3 ∨ k = 4) with rfl | rfl | rfl | rfl | rfl <;> rfl
theorem DL {b : Nat} {n : Nd} {out : List Ms} {H : Qb} (hn : Bd n) (hx : ∀ i, n.next.get i ≤ 100000000000) (ho : out.length ≤ 900) (hw : WkH b n out H) :
  FnH Tryz.prog 104 [pW b, .clo 105 [pW b] []] H (fun r H' => r = .tup [] ∧ WkH b n (out ++ X0 n (Z2 n) 5) H') := by
 have hO := We (Hc := []) (Z2 n) 105 [pW b] [] (by rfl) hn ho hw (fun to out' H2 h0 h5 ho2 hw2 => by
  have := Og to h0 h5 (by have := hn.log; omega) (by have := hn.base0; omega) (by have := hn.base1; omega) (hx _) (by omega) hw2
  have := this.mono (Φ' := fun _ H' => ∃ H1, H' = H1 ++ [] ∧ WkH b n (out' ++ [Z2 n to]) H1) fun r H' h => ⟨H', by simp, h.2⟩
  rw [← List.append_nil H2] at this
  exact this)
 rw [List.append_nil] at hO
 exact hO.mono fun r H' ⟨h1, H1, h2, h3⟩ => ⟨h1, by rw [h2, List.append_nil]; exact h3⟩
theorem F5.get_all (v : Int) (i : Nat) : (F5.all v).get i = v := by
 unfold F5.get F5.all
 split <;> rfl
theorem M3 {n : Nd} {i : Nat} : (Xr n).next.get i = n.base + (n.log.length + 1) := by
 obtain ⟨c, r, w, e⟩ := VH (Jh n)
 rw [Xr, e]
 exact F5.get_all _ _
theorem DQ {b : Nat} {n : Nd} {out : List Ms} {H : Qb} (hn : Bd n) (hl : n.log.length < 100000000) (ho : out.length ≤ 900) (hw : WkH b n out H) :
  FnH Tryz.prog 147 [pW b] H (fun r H' => r = .tup [] ∧ WkH b (Xr n) (out ++ X0 (Xr n) (Z2 (Xr n)) 5) H') := by
 have hb0 := hn.base0
 have hb1 := hn.base1
 have hi0 := hn.id0
 have hi5 := hn.id5
 refine fe Tryz.func147 fun S0 w0 => ?_
 show Sim _ _ [(0, pW b)] _ _
 obtain ⟨vl, vo, Hl, Ho, h1, h2, rfl⟩ := hw
 obtain ⟨p, c, rfl⟩ := h1.len
 obtain ⟨q, d, rfl⟩ := h2.len
 refine zC ?_
 refine cr <| s_ Qa <| s_ Qe <| s_ Qd <| s_ Qd <| QC ?_
 refine zC ?_
 refine zC ?_
 refine ca [0, 1, 2, 3, 4, 5, 6, 7, 8, 9, 10, 11, 12, 13, 14, 15, 16, 17] [13, 17] <| a_ (fun _ => Qa) <| a_ (fun _ => Qa) <| a_ (fun _ => Qe) <| a_ (fun _ => Qd) <| a_ (fun _ => Qd) <| QF ?_
 refine a_ (fun _ => Qa) <| a_ (fun _ => Qe) <| a_ (fun _ => Qd) <| a_ (fun _ => Qd) <| QF ?_
 refine a_ (fun _ => ZA 3 [_, _, _]) <| a_ (fun _ => J9) ?_
 refine Br (ho := h1) (A := [_]) (B := Ho ++ []) (Gg n.log) (fun v' Hl' h1' => ⟨zd, ?_⟩)
 refine zD ?_
 have h1 : OE (n.log ++ [⟨n.term, 0, []⟩]) v' Hl' := by unfold OE; rw [List.map_append]; exact h1'
 clear h1'
 obtain ⟨p, c, rfl⟩ := h1.len
 refine a_ (fun _ => Qe) <| a_ (fun _ => Qd) <| a_ (fun _ => Qd) <| XJ ?_
 apply an
 refine zC ?_
 have hL := Jq { n with role := 2, log := n.log ++ [⟨n.term, 0, []⟩] } (by simp; omega) (by simp only; omega) (by simp only; omega)
 refine zC ?_
 refine cr <| s_ Qa <| s_ Qe <| s_ Qd <| s_ Xp <| s_ (Vd hL (Qg.cons (Qz.agg (Q6 _ (h1.lend (by intro p hp; simp [hp])))) Qg.nil)) <| s_ Qa <| s_ QH <| s_ QH <| s_ Qc <| s_ Qc <| zC ?_
 refine cr <| s_ Qa <| zC ?_
 have hLF : QY { n with role := 2, log := n.log ++ [⟨n.term, 0, []⟩] } = n.base + (n.log.length + 1) := by simp [QY]
 rw [hLF]
 generalize hv : n.base + (n.log.length + 1) = v
 apply Qt (σ := Nat) (ok := fun k => k ≤ 5) (env := fun k => [(34, ei (k : Nat)), (2, ei v), (0, pW b)])
  (heap := fun k => (b, ⟨tW, wkC { n with role := 2, log := n.log ++ [⟨n.term, 0, []⟩], next := Vy n.next v k, mtch := Vy n.mtch 0 k } (.slice p ((n.log ++ [(⟨n.term, 0, []⟩ : En)]).map een).length c) (.slice q (out.map ms).length d), 23⟩) :: (Hl' ++ (Ho ++ []))) (μ := fun k => 5 - k) (s0 := 0)
 ·exact Nat.zero_le _
 ·exact eL
 ·exact kR
 ·intro k hk
  refine zC ?_
  refine cr <| s_ QX <| zC ?_
  refine ci ?_ ?_
  ·intro hlt
   have hk5 : k < 5 := by omega
   refine zC ?_
   refine cr <| s_ Qa <| s_ Qc <| zC ?_
   refine ca [0, 1, 2, 3, 4, 5, 6, 7, 8, 10, 11, 12, 9, 13, 14] [9, 14] <| a_ (fun _ => Qa) <| a_ (fun _ => Qa) <| a_ (fun _ => Qa) <| a_ (fun _ => Qa) <| a_ (fun _ => Qa) <| a_ (fun _ => Qe) <| a_ (fun _ => Qd) <| a_ (fun _ => Qd) <| a_ (fun _ => ZQ) <| a_ (fun _ => Qe) <| a_ (fun _ => Qd) <| a_ (fun _ => Qd) ?_
   refine Gu ?_ ?_
   ·simp only [Jm, ZE]; omega
   refine a_ (fun _ => ZQ) ?_
   refine Gu ?_ ?_
   ·simp only [Jm, ZE, Ia, Value.cells, T.cells, List.length_map]; simp; omega
   apply an
   refine zC ?_
   refine cr <| s_ Q5 <| s_ Qa <| zC ?_
   refine ⟨k + 1, by omega, by show 5 - (k + 1) < 5 - k; omega, ⟨Qk (by rfl) (Le.refl _), eL⟩, ?_⟩
   show Qh ((b, ⟨_, lay (lay _ _ (T.v (.int .i64 v)).cells) _ (T.v (.int .i64 0)).cells, _⟩) :: _) _
   rw [ET hk5, EV hk5]
   exact kR
  ·intro hlt
   have : k = 5 := by omega
   subst this
   refine zC ?_
   refine ca [0, 1, 2, 3, 4, 5, 6, 7, 8, 9, 10, 11] [11] <| a_ (fun _ => Qa) <| a_ (fun _ => Qa) <| a_ (fun _ => Qe) <| a_ (fun _ => Qd) <| a_ (fun _ => Qd) <| QF ?_
   refine a_ (fun _ => Qa) <| a_ (fun _ => Qe) <| a_ (fun _ => Qd) <| a_ (fun _ => Qd) <| a_ (fun _ => ZQ) ?_
   refine Gu ?_ ?_
   ·simp only [Jm, ZE]; omega
   apply an
   refine zC ?_
   have hm : lay (wkC { n with role := 2, log := n.log ++ [⟨n.term, 0, []⟩], next := Vy n.next v 5, mtch := Vy n.mtch 0 5 } (.slice p ((n.log ++ [(⟨n.term, 0, []⟩ : En)]).map een).length c) (.slice q (out.map ms).length d)) (0 + 0 + 17 + n.id.toNat * 1) (ei v).cells = wkC (Jh n) (.slice p ((n.log ++ [(⟨n.term, 0, []⟩ : En)]).map een).length c) (.slice q (out.map ms).length d) := by
    obtain ⟨i, hi⟩ : ∃ i : Nat, n.id = (i : Int) := ⟨n.id.toNat, by omega⟩
    rw [Jh, hv, hi]
    rcases (by omega : i = 0 ∨ i = 1 ∨ i = 2 ∨ i = 3 ∨ i = 4) with rfl | rfl | rfl | rfl | rfl <;> rfl
   have hw : WkH b (Jh n) out ((b, ⟨tW, lay (wkC { n with role := 2, log := n.log ++ [⟨n.term, 0, []⟩], next := Vy n.next v 5, mtch := Vy n.mtch 0 5 } (.slice p ((n.log ++ [(⟨n.term, 0, []⟩ : En)]).map een).length c) (.slice q (out.map ms).length d)) (0 + 0 + 17 + n.id.toNat * 1) (ei v).cells, 23⟩) :: (Hl' ++ (Ho ++ []))) := by
    rw [hm]
    exact ⟨_, _, Hl', Ho, h1, h2, rfl⟩
   have hnl := hn.lead hl
   have hnc := hnl.commit
   refine zC ?_
   refine cr <| s_ Qa ?_
   refine QN (Wz hnl hw) (fun r H' ⟨hr, hw'⟩ => ?_)
   subst hr
   refine zC ?_
   refine cr <| s_ Qa <| s_ Qa <| s_ J8 ?_
   refine QN (DL hnc (fun i => by have := M3 (n := n) (i := i); unfold Xr at this; rw [this]; omega) ho hw') (fun r H' ⟨hr, hw''⟩ => ?_)
   subst hr
   refine zC ?_
   exact rhn kR ⟨rfl, hw''⟩ (Le.refl _)
def Gs (idx term : Int) : Ms := ⟨1, 0, 0, 0, idx, term, 0, 0, false, [], []⟩
def Q4 (n : Nd) : Nd := { n with role := 1, vote := n.id, wait := 0, term := n.term + 1, votes := 2 ^ n.id.toNat }
def Yv (n : Nd) : Nd × List Ms := if UH (QK n).2 (2 ^ n.id.toNat) then (Xr (Q4 n), X0 (Xr (Q4 n)) (Z2 (Xr (Q4 n))) 5)
 else (Q4 n, X0 (Q4 n) (fun to => XT (Q4 n) to (Gs (QY n) (Ya n (QY n)))) 5)
theorem Cy {b b1 b2 b3 : Nat} {n : Nd} {out : List Ms} {H : Qb} (to idx term : Int) (hb : out.length ≤ 1000) (hw : WkH b n out H) :
  FnH Tryz.prog 148 ([] ++ [ei to] ++ [pW b1, pW b2, pW b3]) (H ++ [(b3, ⟨3, [ei term], 1⟩), (b2, ⟨3, [ei idx], 1⟩), (b1, ⟨164, [pW b], 1⟩)])
   (fun _ H' => ∃ H1, H' = H1 ++ [(b3, ⟨3, [ei term], 1⟩), (b2, ⟨3, [ei idx], 1⟩), (b1, ⟨164, [pW b], 1⟩)] ∧ WkH b n (out ++ [XT n to (Gs idx term)]) H1) := by
 refine fe Tryz.func148 fun S0 w0 => ?_
 show Sim _ _ [(0, ei to), (1, pW b1), (2, pW b2), (3, pW b3)] _ _
 refine zC ?_
 refine cr <| s_ Qn <| s_ Qa <| s_ Qn <| s_ Qn <| s_ (ZA 11 [_, _, _, _, _, _, _, _, _, _, _]) ?_
 refine Q1 (FnH.of_le ?_ (Jo to (Gs idx term) hb hw)) (.refl _) (fun r H' ⟨hr, h3⟩ => ?_)
 ·exact zM
 ·subst hr
  refine zC ?_
  exact rhn kR ⟨_, rfl, h3⟩ (Le.refl _)
theorem Bd.stand {n : Nd} (h : Bd n) : Bd (Q4 n) := ⟨h.id0, h.id5, h.log, h.base0, h.base1, h.conf0, h.conf1⟩
theorem GJ {b : Nat} {n : Nd} {out : List Ms} {H : Qb} (hn : Bd n) (hl : n.log.length < 100000000) (ht0 : 0 ≤ n.term) (ht1 : n.term ≤ 1000000000000) (ho : out.length ≤ 900) (hw : WkH b n out H) :
  FnH Tryz.prog 108 [pW b] H (fun r H' => r = .tup [] ∧ WkH b (Yv n).1 (out ++ (Yv n).2) H') := by
 have hb0 := hn.base0
 have hb1 := hn.base1
 have hi0 := hn.id0
 have hi5 := hn.id5
 have hC := U1 (Q4 n) (by show n.log.length ≤ _; omega) (by show _ ≤ n.base; omega) (by show n.base ≤ _; omega)
 have hL := Jq (Q4 n) (by show n.log.length ≤ _; omega) (by show _ ≤ n.base; omega) (by show n.base ≤ _; omega)
 have hsh : Y1 .i64 1 (IntKind.u64.wrap n.id) = 2 ^ n.id.toNat ∧ 0 ≤ (2 : Int) ^ n.id.toNat ∧ (2 : Int) ^ n.id.toNat ≤ 31 := by
  rcases five hi0 hi5 with h | h | h | h | h <;> rw [h] <;> decide
 have hwi : IntKind.u64.wrap n.id = n.id := Z5 hi0 (by omega)
 have hM := W6 (QK n).2 (2 ^ n.id.toNat) hsh.2.1 hsh.2.2 hn.conf0 hn.conf1
 refine fe Tryz.func108 fun S0 w0 => ?_
 show Sim _ _ [(0, pW b)] _ _
 obtain ⟨vl, vo, Hl, Ho, h1, h2, rfl⟩ := hw
 obtain ⟨p, c, rfl⟩ := h1.len
 obtain ⟨q, d, rfl⟩ := h2.len
 refine zC ?_
 apply cr
 refine Lm fun b1 _ => ?_
 refine zC ?_
 refine ca [0, 1, 2, 3, 4, 5, 6, 7, 8, 9, 10, 11, 12, 13, 14, 15, 16, 17, 18, 19] [11, 15, 19] <| QF ?_
 refine QF ?_
 refine QF ?_
 refine QF ?_
 refine a_ (fun _ => Qe) <| a_ (fun _ => Qd) <| a_ (fun _ => Qd) <| QF ?_
 refine a_ (fun _ => Qe) <| a_ (fun _ => Qd) <| a_ (fun _ => Qd) <| XJ ?_
 refine a_ (fun _ => Qe) <| a_ (fun _ => Qd) <| a_ (fun _ => Qd) <| XJ ?_
 refine a_ (fun _ => Qe) <| a_ (fun _ => Qd) <| a_ (fun _ => Qd) <| XJ ?_
 apply an
 refine zC ?_
 refine cr <| s_ Qn <| s_ Qe <| s_ Qd <| s_ Qd <| s_ Qn <| s_ Q5 <| s_ Qe <| s_ Qd <| s_ Qd <| QC ?_
 refine zC ?_
 refine ca [0, 1, 2, 3, 4, 5, 6, 7, 8, 9, 10, 11] [11] <| QF ?_
 refine QF ?_
 refine a_ (fun _ => Qe) <| a_ (fun _ => Qd) <| a_ (fun _ => Qd) <| QF ?_
 refine a_ (fun _ => X3) <| a_ (fun _ => J7) <| a_ (fun _ => Qe) <| a_ (fun _ => Qd) <| a_ (fun _ => Qd) <| XJ ?_
 apply an
 refine zC ?_
 rw [hsh.1]
 refine zC ?_
 refine ca [0, 1, 2, 3, 4, 5, 6, 7, 8, 9, 10] [] <| QF ?_
 refine a_ (fun _ => Qe) <| a_ (fun _ => Qd) <| Yz ?_
 refine CG (G := (b, _) :: (Hl ++ (Ho ++ []))) hC (Qg.cons (Qz.agg (Q6 _ (h1.lend (by intro p hp; simp [hp])))) Qg.nil) ⟨[_], List.perm_append_comm (l₁ := [_])⟩ ?_
 refine QF ?_
 refine a_ (fun _ => Qe) <| a_ (fun _ => Qd) <| a_ (fun _ => Qd) <| QF ?_
 refine a_ (fun _ => QM (hM)) ?_
 apply an
 refine zC ?_
 have hw : WkH b (Q4 n) out ((b, ⟨tW, wkC (Q4 n) (.slice p (n.log.map een).length c) (.slice q (out.map ms).length d), 23⟩) :: (Hl ++ (Ho ++ []))) := ⟨_, _, Hl, Ho, h1, h2, rfl⟩
 refine ci ?_ ?_
 ·intro hc
  refine zC ?_
  refine cr <| s_ Qn ?_
  refine Q1 (Hr := [_]) (DQ hn.stand hl ho hw) (List.perm_append_comm (l₁ := [_])) (fun r H' ⟨hr, h3⟩ => ?_)
  subst hr
  refine zC ?_
  refine zR ?_
  refine rhp (List.perm_append_comm (l₂ := [_])) (.skip _ _ _ kR) ⟨rfl, ?_⟩ (Le.refl _)
  have hm : UH (QK n).2 (2 ^ n.id.toNat) = true := decide_eq_true hc
  rw [Yv, if_pos hm]
  exact h3
 ·intro hc
  refine zC ?_
  refine cr <| s_ Qn <| s_ Qe <| s_ Qd <| s_ Xp <| s_ (C1 (G := (b, _) :: (Hl ++ (Ho ++ []))) hL (Qg.cons (Qz.agg (Q6 _ (h1.lend (by intro p hp; simp [hp])))) Qg.nil) ⟨[_], List.perm_append_comm (l₁ := [_])⟩) <| s_ Qa <| s_ QH <| s_ QH ?_
  refine Yt fun b2 _ => ?_
  refine Yt fun b3 _ => ?_
  refine QC ?_
  refine QC ?_
  refine zC ?_
  refine cr <| s_ Qn <| s_ J8 ?_
  have hO := We (fun to => XT (Q4 n) to (Gs (QY (Q4 n)) (Ya (Q4 n) (QY (Q4 n))))) 148 [] [pW b1, pW b2, pW b3] (by rfl) hn.stand ho hw (fun to out' H2 h0 h5 ho2 hw2 => Cy (b1 := b1) (b2 := b2) (b3 := b3) to _ _ (by omega) hw2)
  refine Q1 (Hr := []) hO ?_ (fun r H' hh => ?_)
  ·exact List.Perm.trans (l₂ := (_ :: _) ++ (_ :: _ :: _ :: [])) (List.perm_append_comm (l₁ := _ :: _ :: _ :: [])) (List.Perm.of_eq (List.append_nil _).symm)
  obtain ⟨hr, H1, e, h3⟩ := hh
  subst hr
  subst e
  refine zC ?_
  rw [List.append_nil]
  refine rhn (kH (r' := []) kN) ⟨rfl, ?_⟩ (Le.refl _)
  have hm : ¬ UH (QK n).2 (2 ^ n.id.toNat) = true := fun h => hc (of_decide_eq_true h)
  rw [Yv, if_neg hm, List.append_nil]
  exact h3
theorem Bd.of {n n' : Nd} (h : Bd n) (h1 : n'.id = n.id := by rfl) (h2 : n'.log = n.log := by rfl) (h3 : n'.base = n.base := by rfl) (h4 : n'.baseConf = n.baseConf := by rfl) : Bd n' := by
 have hc : QK n' = QK n := by simp only [QK, h2, h3, h4]
 exact ⟨h1 ▸ h.id0, h1 ▸ h.id5, h2 ▸ h.log, h3 ▸ h.base0, h3 ▸ h.base1, hc ▸ h.conf0, hc ▸ h.conf1⟩
theorem Om (m : Ms) : ms m = .agg [ei m.kind, ei m.frm, ei m.to, ei m.term, ei m.index, ei m.logTerm, ei m.commit, ei m.conf, .v (.bool (decide (m.yes = true))), Y7 m.entries, es m.snap] := by
 simp [ms, msC, eB]
def WG (yes : Bool) : Ms := ⟨2, 0, 0, 0, 0, 0, 0, 0, yes, [], []⟩
def MH (n : Nd) (m : Ms) : Bool := decide ((m.term = n.term ∧ (n.vote = -1 ∨ n.vote = m.frm)) ∧ (Ya n (QY n) < m.logTerm ∨ m.logTerm = Ya n (QY n) ∧ QY n ≤ m.index))
def YR (n : Nd) (m : Ms) : Nd := if MH n m then { n with vote := m.frm, wait := 0 } else n
theorem Ry {b : Nat} {n : Nd} {out : List Ms} {H : Qb} (m : Ms) (hn : Bd n) (ho : out.length ≤ 900) (hw : WkH b n out H) :
  FnH Tryz.prog 133 [pW b, ms m] H (fun r H' => r = .tup [] ∧ WkH b (YR n m) (out ++ [XT (YR n m) m.frm (WG (MH n m))]) H') := by
 have hb0 := hn.base0
 have hb1 := hn.base1
 have hlog := hn.log
 have hL := Jq n (by omega) (by omega) (by omega)
 refine fe Tryz.func133 fun S0 w0 => ?_
 show Sim _ _ [(0, pW b), (1, T.agg (msC m (Y7 m.entries)))] _ _
 obtain ⟨vl, vo, Hl, Ho, h1, h2, rfl⟩ := hw
 obtain ⟨p, c, rfl⟩ := h1.len
 obtain ⟨q, d, rfl⟩ := h2.len
 refine zC ?_
 apply cr
 refine XO fun b3 _ => ?_
 refine zC ?_
 refine Zf 3 (by simp [msC]) ?_
 refine zC ?_
 refine cr <| s_ Qa <| s_ Qe <| s_ Qd <| s_ Xp <| s_ (Vd hL (Qg.cons (Qz.agg (Q6 _ (h1.lend (by intro p hp; simp [hp])))) Qg.nil)) <| s_ Qa <| s_ QH <| s_ QH <| s_ Qc <| s_ Qc <| zC ?_
 refine ca [0, 1, 2, 3, 4, 5, 6, 7, 8, 9, 10, 11, 12, 13, 14, 15, 16, 17, 18, 19, 20, 21, 22, 23, 24, 25, 26, 27, 28, 29, 30, 31, 32, 33, 34, 35, 36, 37, 38, 39, 40, 41, 42, 43, 44] [] <| a_ (fun _ => Qs) <| a_ (fun _ => Qm) <| a_ (fun _ => Qa) <| a_ (fun _ => Qe) <| a_ (fun _ => Qd) <| a_ (fun _ => Qd) <| QF ?_
 refine a_ (fun _ => Xy) <| a_ (fun _ => Qa) <| Qy (fun _ hg => Qa) ?_
 refine Qy (fun _ hg => Qe (hx := u_ hg)) ?_
 refine Qy (fun _ hg => Qd (hx := u_ hg)) ?_
 refine Qy (fun _ hg => Qd (hx := u_ hg)) ?_
 refine Y2 ?_
 refine Qy (fun _ hg => Xy (hx := u_ hg)) ?_
 refine Qy (fun _ hg => Qa (hx := u_ hg)) ?_
 refine Uv (fun _ hg => Qa) ?_
 refine Uv (fun _ hg => Qe (hx := u_ hg)) ?_
 refine Uv (fun _ hg => Qd (hx := u_ hg)) ?_
 refine Uv (fun _ hg => Qd (hx := u_ hg)) ?_
 refine CC ?_
 refine Uv (fun _ hg => Qs) ?_
 refine Uv (fun _ hg => Qm (hx := u_ hg)) ?_
 refine Uv (fun _ hg => Xy (hx := u_ hg) (hy := u_ hg)) ?_
 refine Qy (fun _ hg => IN hg) ?_
 refine a_ (fun _ => Xz) <| a_ (fun _ => Qa) <| Qy (fun _ hg => Qs) ?_
 refine Qy (fun _ hg => Qm (hx := u_ hg)) ?_
 refine Qy (fun _ hg => Qa) ?_
 refine Qy (fun _ hg => XZ (hx := u_ hg) (hy := u_ hg)) ?_
 refine Qy (fun _ hg => Qa (hx := u_ hg)) ?_
 refine Uv (fun _ hg => Qs) ?_
 refine Uv (fun _ hg => Qm (hx := u_ hg)) ?_
 refine Uv (fun _ hg => Qa) ?_
 refine Uv (fun _ hg => Xy (hx := u_ hg) (hy := u_ hg)) ?_
 refine Uv (fun _ hg => Qa (hx := u_ hg)) ?_
 refine IB (fun _ hg => Qs) ?_
 refine IB (fun _ hg => Qm (hx := u_ hg)) ?_
 refine IB (fun _ hg => Qa) ?_
 refine IB (fun _ hg => Vc (hx := u_ hg) (hy := u_ hg)) ?_
 refine Uv (fun _ hg => IS hg) ?_
 refine Qy (fun _ hg => IN hg) ?_
 refine a_ (fun _ => Xz) <| a_ (fun _ => Qc) ?_
 apply an
 refine zC ?_
 refine cr <| s_ Qa <| zC ?_
 refine ci ?_ ?_
 ·intro hc
  have hy : MH n m = true := decide_eq_true hc
  have hv : YR n m = { n with vote := m.frm, wait := 0 } := by rw [YR, if_pos hy]
  refine zC ?_
  refine cr <| s_ Qa <| s_ Qa <| s_ Qs <| s_ Qm <| s_ Qe <| s_ Qd <| s_ Qd <| QC ?_
  refine s_ Qe <| s_ Qd <| s_ Qd <| QC ?_
  refine zC ?_
  refine cr <| s_ Qa <| s_ Qs <| s_ Qm <| s_ Qa <| s_ (ZA 11 [_, _, _, _, _, _, _, _, _, _, _]) ?_
  refine QN (FnH.of_le ?_ (Jo m.frm (WG (MH n m)) (by omega) (show WkH b { n with vote := m.frm, wait := 0 } out _ from ⟨_, _, Hl, Ho, h1, h2, rfl⟩))) (fun r H' ⟨hr, h3⟩ => ?_)
  ·exact zM
  ·subst hr
   refine zC ?_
   rw [hv]
   exact rhn kR ⟨rfl, h3⟩ (Le.refl _)
 ·intro hc
  have hy : ¬ MH n m = true := fun h => hc (of_decide_eq_true h)
  have hv : YR n m = n := by rw [YR, if_neg hy]
  refine zC ?_
  refine cr <| s_ Qa <| s_ Qs <| s_ Qm <| s_ Qa <| s_ (ZA 11 [_, _, _, _, _, _, _, _, _, _, _]) ?_
  refine QN (FnH.of_le ?_ (Jo m.frm (WG (MH n m)) (by omega) (show WkH b n out _ from ⟨_, _, Hl, Ho, h1, h2, rfl⟩))) (fun r H' ⟨hr, h3⟩ => ?_)
  ·exact zM
  ·subst hr
   refine zC ?_
   rw [hv]
   exact rhn kR ⟨rfl, h3⟩ (Le.refl _)
def orI (a b : Int) : Int := (a.toNat ||| b.toNat : Nat)
theorem C4 {x y : Int} (h0 : 0 ≤ x) (h1 : x ≤ 31) (h2 : 0 ≤ y) (h3 : y < 5) : bOr .i64 x (Y1 .i64 1 (IntKind.u64.wrap y)) = orI x (2 ^ y.toNat) ∧ 0 ≤ orI x (2 ^ y.toNat) ∧ orI x (2 ^ y.toNat) ≤ 31 := by
 have key : ∀ i : Fin 32, ∀ j : Fin 5, bOr .i64 i.val (Y1 .i64 1 (IntKind.u64.wrap (j.val : Nat))) = orI i.val (2 ^ j.val) ∧ 0 ≤ orI i.val (2 ^ j.val) ∧ orI i.val (2 ^ j.val) ≤ 31 := by decide
 obtain ⟨i, rfl⟩ := D5 h0 h1
 obtain ⟨j, rfl⟩ : ∃ j : Nat, y = (j : Int) := ⟨y.toNat, by omega⟩
 exact key i ⟨j, by omega⟩
def X7 (n : Nd) (m : Ms) : Nd := { n with votes := orI n.votes (2 ^ m.frm.toNat) }
def Yu (n : Nd) (m : Ms) : Nd × List Ms := if (¬ m.term = n.term ∨ ¬ n.role = 1) ∨ ¬ m.yes = true then (n, []) else
 if UH (QK n).2 (orI n.votes (2 ^ m.frm.toNat)) then (Xr (X7 n m), X0 (Xr (X7 n m)) (Z2 (Xr (X7 n m))) 5) else (X7 n m, [])
theorem GD {b : Nat} {n : Nd} {out : List Ms} {H : Qb} (m : Ms) (hn : Bd n) (hl : n.log.length < 100000000) (hv0 : 0 ≤ n.votes) (hv1 : n.votes ≤ 31) (hf0 : 0 ≤ m.frm) (hf5 : m.frm < 5) (ho : out.length ≤ 900) (hw : WkH b n out H) :
  FnH Tryz.prog 134 [pW b, ms m] H (fun r H' => r = .tup [] ∧ WkH b (Yu n m).1 (out ++ (Yu n m).2) H') := by
 have hb0 := hn.base0
 have hb1 := hn.base1
 have hlog := hn.log
 have hor := C4 hv0 hv1 hf0 hf5
 have hwf : IntKind.u64.wrap m.frm = m.frm := Z5 hf0 (by omega)
 have hC := U1 (X7 n m) (by show n.log.length ≤ _; omega) (by show _ ≤ n.base; omega) (by show n.base ≤ _; omega)
 have hM := W6 (QK n).2 (orI n.votes (2 ^ m.frm.toNat)) hor.2.1 hor.2.2 hn.conf0 hn.conf1
 rw [Om]
 refine fe Tryz.func134 fun S0 w0 => ?_
 show Sim _ _ [(0, pW b), (1, T.agg [ei m.kind, ei m.frm, ei m.to, ei m.term, ei m.index, ei m.logTerm, ei m.commit, ei m.conf, .v (.bool (decide (m.yes = true))), Y7 m.entries, es m.snap])] _ _
 obtain ⟨vl, vo, Hl, Ho, h1, h2, rfl⟩ := hw
 obtain ⟨p, c, rfl⟩ := h1.len
 obtain ⟨q, d, rfl⟩ := h2.len
 refine zC ?_
 apply cr
 refine XO fun b3 _ => ?_
 refine zC ?_
 refine Zf 3 (by simp) ?_
 refine zC ?_
 refine ca [0, 1, 2, 3, 4, 5, 6, 7, 8, 9, 10, 11, 12, 13, 14, 15, 16, 17, 18, 19, 20] [] <| a_ (fun _ => Qs) <| a_ (fun _ => Qm) <| a_ (fun _ => Qa) <| a_ (fun _ => Qe) <| a_ (fun _ => Qd) <| a_ (fun _ => Qd) <| QF ?_
 refine a_ (fun _ => Yw) <| a_ (fun _ => Qa) <| Xw (fun _ hg => Qa) ?_
 refine Xw (fun _ hg => Qe (hx := u_ hg)) ?_
 refine Xw (fun _ hg => Qd (hx := u_ hg)) ?_
 refine Xw (fun _ hg => Qd (hx := u_ hg)) ?_
 refine Ls ?_
 refine Xw (fun _ hg => Yw (hx := u_ hg)) ?_
 refine a_ (fun _ => Yc) <| a_ (fun _ => Qa) <| Xw (fun _ hg => Qs) ?_
 refine Xw (fun _ hg => Qm (hx := u_ hg)) ?_
 refine Xw (fun _ hg => XY (hx := u_ hg)) ?_
 refine a_ (fun _ => Yc) ?_
 apply an
 refine zC ?_
 refine ci ?_ ?_
 ·intro hc
  refine zR ?_
  refine rh kR ⟨rfl, ?_⟩ (Le.refl _)
  rw [Yu, if_pos hc, List.append_nil]
  exact ⟨_, _, Hl, Ho, h1, h2, rfl⟩
 ·intro hc
  refine zC ?_
  refine ca [0, 1, 2, 3, 4, 5, 6, 7, 8, 9, 10, 11, 12, 13] [13] <| a_ (fun _ => Qa) <| a_ (fun _ => Qe) <| a_ (fun _ => Qd) <| a_ (fun _ => Qd) <| QF ?_
  refine a_ (fun _ => Qs) <| a_ (fun _ => Qm) <| a_ (fun _ => X3) <| a_ (fun _ => J7) <| a_ (fun _ => UG) <| a_ (fun _ => Qe) <| a_ (fun _ => Qd) <| a_ (fun _ => Qd) <| XJ ?_
  apply an
  refine zC ?_
  rw [hor.1]
  have hw : WkH b (X7 n m) out ((b, ⟨tW, wkC (X7 n m) (.slice p (n.log.map een).length c) (.slice q (out.map ms).length d), 23⟩) :: (Hl ++ (Ho ++ []))) := ⟨_, _, Hl, Ho, h1, h2, rfl⟩
  refine zC ?_
  refine ca [0, 1, 2, 3, 4, 5, 6, 7, 8, 9, 10] [] <| a_ (fun _ => Qa) <| a_ (fun _ => Qe) <| a_ (fun _ => Qd) <| Yz ?_
  refine CG (G := (b, _) :: (Hl ++ (Ho ++ []))) hC (Qg.cons (Qz.agg (Q6 _ (h1.lend (by intro p hp; simp [hp])))) Qg.nil) ⟨[], UF⟩ ?_
  refine a_ (fun _ => Qa) <| a_ (fun _ => Qe) <| a_ (fun _ => Qd) <| a_ (fun _ => Qd) <| QF ?_
  refine a_ (fun _ => QM (hM)) ?_
  apply an
  refine zC ?_
  refine ci ?_ ?_
  ·intro hm
   refine zC ?_
   refine cr <| s_ Qa ?_
   refine QN (DQ (hn.of (n' := X7 n m)) hl ho hw) (fun r H' ⟨hr, h3⟩ => ?_)
   subst hr
   refine zC ?_
   refine rhn kR ⟨rfl, ?_⟩ (Le.refl _)
   have hm' : UH (QK n).2 (orI n.votes (2 ^ m.frm.toNat)) = true := decide_eq_true hm
   rw [Yu, if_neg hc, if_pos hm']
   exact h3
  ·intro hm
   refine zC ?_
   refine rhn kR ⟨rfl, ?_⟩ (Le.refl _)
   have hm' : ¬ UH (QK n).2 (orI n.votes (2 ^ m.frm.toNat)) = true := fun h => hm (of_decide_eq_true h)
   rw [Yu, if_neg hc, if_neg hm', List.append_nil]
   exact hw
theorem W5 {n : Nd} {vl vo : Value} {to : Int} (h0 : 0 ≤ to) (h5 : to < 5) : (wkC n vl vo)[0 + 0 + 17 + to.toNat * 1]? = some (ei (n.mtch.get to.toNat)) := by
 rcases five h0 h5 with rfl | rfl | rfl | rfl | rfl <;> rfl
theorem Wk {n : Nd} {vl vo : Value} {i : Int} (h0 : 0 ≤ i) (h5 : i < 5) (v : Int) : lay (wkC n vl vo) (0 + 0 + 12 + i.toNat * 1) (T.v (.int .i64 v)).cells = wkC { n with next := n.next.set i.toNat v } vl vo := by
 rcases five h0 h5 with rfl | rfl | rfl | rfl | rfl <;> rfl
theorem EU {n : Nd} {vl vo : Value} {i : Int} (h0 : 0 ≤ i) (h5 : i < 5) (v : Int) : lay (wkC n vl vo) (0 + 0 + 17 + i.toNat * 1) (T.v (.int .i64 v)).cells = wkC { n with mtch := n.mtch.set i.toNat v } vl vo := by
 rcases five h0 h5 with rfl | rfl | rfl | rfl | rfl <;> rfl
theorem D1 (f : F5) {i : Int} (h0 : 0 ≤ i) (h5 : i < 5) (v : Int) : (f.set i.toNat v).get i.toNat = v := by
 rcases five h0 h5 with rfl | rfl | rfl | rfl | rfl <;> rfl
def JS (n : Nd) (m : Ms) : Nd := { n with mtch := n.mtch.set m.frm.toNat (max (n.mtch.get m.frm.toNat) m.index), next := n.next.set m.frm.toNat (max (n.mtch.get m.frm.toNat) m.index + 1) }
def Zg (n : Nd) (m : Ms) : Nd := { n with next := n.next.set m.frm.toNat (max (max (min (n.next.get m.frm.toNat - 1) (m.index + 1)) 1) (n.mtch.get m.frm.toNat + 1)) }
def Yd (n : Nd) (m : Ms) : Nd × List Ms := if ¬ m.term = n.term ∨ ¬ n.role = 2 then (n, []) else if m.yes = true then (Q2 (JS n m), []) else
 if (Zg n m).next.get m.frm.toNat ≤ QY n then (Zg n m, [Z2 (Zg n m) m.frm]) else (Zg n m, [])
theorem OH {b : Nat} {n : Nd} {out : List Ms} {H : Qb} (m : Ms) (hn : Bd n) (hf0 : 0 ≤ m.frm) (hf5 : m.frm < 5) (hx0 : -100000000000 ≤ n.next.get m.frm.toNat) (hx1 : n.next.get m.frm.toNat ≤ 50000000000) (hm0 : -100000000000 ≤ n.mtch.get m.frm.toNat) (hm1 : n.mtch.get m.frm.toNat ≤ 50000000000) (hi0 : -100000000000 ≤ m.index) (hi1 : m.index ≤ 50000000000) (ho : out.length ≤ 900) (hw : WkH b n out H) :
  FnH Tryz.prog 136 [pW b, ms m] H (fun r H' => r = .tup [] ∧ WkH b (Yd n m).1 (out ++ (Yd n m).2) H') := by
 have hb0 := hn.base0
 have hb1 := hn.base1
 have hlog := hn.log
 have hL := Jq (Zg n m) (by show n.log.length ≤ _; omega) (by show _ ≤ n.base; omega) (by show n.base ≤ _; omega)
 rw [Om]
 refine fe Tryz.func136 fun S0 w0 => ?_
 show Sim _ _ [(0, pW b), (1, T.agg [ei m.kind, ei m.frm, ei m.to, ei m.term, ei m.index, ei m.logTerm, ei m.commit, ei m.conf, .v (.bool (decide (m.yes = true))), Y7 m.entries, es m.snap])] _ _
 obtain ⟨vl, vo, Hl, Ho, h1, h2, rfl⟩ := hw
 obtain ⟨p, c, rfl⟩ := h1.len
 obtain ⟨q, d, rfl⟩ := h2.len
 refine zC ?_
 apply cr
 refine XO fun b3 _ => ?_
 refine zC ?_
 refine Zf 3 (by simp) ?_
 refine zC ?_
 refine ca [0, 1, 2, 3, 4, 5, 6, 7, 8, 9, 10, 11, 12, 13, 14, 15] [] <| a_ (fun _ => Qs) <| a_ (fun _ => Qm) <| a_ (fun _ => Qa) <| a_ (fun _ => Qe) <| a_ (fun _ => Qd) <| a_ (fun _ => Qd) <| QF ?_
 refine a_ (fun _ => Yw) <| a_ (fun _ => Qa) <| Xw (fun _ hg => Qa) ?_
 refine Xw (fun _ hg => Qe (hx := u_ hg)) ?_
 refine Xw (fun _ hg => Qd (hx := u_ hg)) ?_
 refine Xw (fun _ hg => Qd (hx := u_ hg)) ?_
 refine Ls ?_
 refine Xw (fun _ hg => Yw (hx := u_ hg)) ?_
 refine a_ (fun _ => Yc) ?_
 apply an
 refine zC ?_
 refine ci ?_ ?_
 ·intro hc
  refine zR ?_
  refine rh kR ⟨rfl, ?_⟩ (Le.refl _)
  rw [Yd, if_pos hc, List.append_nil]
  exact ⟨_, _, Hl, Ho, h1, h2, rfl⟩
 ·intro hc
  refine zC ?_
  refine cr <| s_ Qs <| s_ Qm <| zC ?_
  refine ci ?_ ?_
  ·intro hy
   refine zC ?_
   refine ca [0, 1, 2, 3, 4, 5, 6, 7, 8, 9, 10, 11, 12, 13, 14, 15, 16, 17, 18] [18] <| a_ (fun _ => Qa) <| a_ (fun _ => Qs) <| a_ (fun _ => Qm) <| a_ (fun _ => Qa) <| a_ (fun _ => Qs) <| a_ (fun _ => Qm) <| a_ (fun _ => Qe) <| a_ (fun _ => Qd) <| a_ (fun _ => Qd) <| a_ (fun _ => ZQ) <| QF (hd := W5 hf0 hf5) ?_
   refine a_ (fun _ => Qs) <| a_ (fun _ => Qm) <| a_ (fun _ => LX) <| a_ (fun _ => Qe) <| a_ (fun _ => Qd) <| a_ (fun _ => Qd) <| a_ (fun _ => ZQ) ?_
   refine Gu ?_ ?_
   ·simp only [Jm, ZE, T.cells, Value.cells]; simp; omega
   rw [EU hf0 hf5]
   have hd2 : ∀ vl vo, (wkC { n with mtch := n.mtch.set m.frm.toNat (max (n.mtch.get m.frm.toNat) m.index) } vl vo)[0 + 0 + 17 + m.frm.toNat * 1]? = some (ei (max (n.mtch.get m.frm.toNat) m.index)) := fun _ _ => by rw [W5 hf0 hf5, D1 _ hf0 hf5]
   apply an
   refine zC ?_
   refine ca [0, 1, 2, 3, 4, 5, 6, 7, 8, 9, 10, 11, 12, 13, 14, 15, 16] [16] <| a_ (fun _ => Qa) <| a_ (fun _ => Qs) <| a_ (fun _ => Qm) <| a_ (fun _ => Qa) <| a_ (fun _ => Qs) <| a_ (fun _ => Qm) <| a_ (fun _ => Qe) <| a_ (fun _ => Qd) <| a_ (fun _ => Qd) <| a_ (fun _ => ZQ) <| QF (hd := hd2 _ _) ?_
   refine a_ (fun _ => Q5) <| a_ (fun _ => Qe) <| a_ (fun _ => Qd) <| a_ (fun _ => Qd) <| a_ (fun _ => ZQ) ?_
   refine Gu ?_ ?_
   ·simp only [Jm, ZE, T.cells, Value.cells]; simp; omega
   rw [Wk hf0 hf5]
   apply an
   refine zC ?_
   refine cr <| s_ Qa ?_
   refine QN (Wz (hn.of (n' := JS n m)) ⟨_, _, Hl, Ho, h1, h2, rfl⟩) (fun r H' ⟨hr, h3⟩ => ?_)
   subst hr
   refine zC ?_
   refine zR ?_
   refine rh kR ⟨rfl, ?_⟩ (Le.refl _)
   rw [Yd, if_neg hc, if_pos hy, List.append_nil]
   exact h3
  ·intro hy
   refine zC ?_
   refine ca [0, 1, 2, 3, 4, 5, 6, 7, 8, 9, 10, 11, 12, 13, 14, 15, 16, 17, 18, 19, 20, 21, 22, 23, 24, 25, 26, 27, 28, 29, 30] [30] <| a_ (fun _ => Qa) <| a_ (fun _ => Qs) <| a_ (fun _ => Qm) <| a_ (fun _ => Qa) <| a_ (fun _ => Qs) <| a_ (fun _ => Qm) <| a_ (fun _ => Qe) <| a_ (fun _ => Qd) <| a_ (fun _ => Qd) <| a_ (fun _ => ZQ) <| QF (hd := UV hf0 hf5) ?_
   refine a_ (fun _ => ZP) <| a_ (fun _ => Qs) <| a_ (fun _ => Qm) <| a_ (fun _ => Q5) <| a_ (fun _ => WZ) <| a_ (fun _ => Qa) <| a_ (fun _ => Qs) <| a_ (fun _ => Qm) <| a_ (fun _ => Qe) <| a_ (fun _ => Qd) <| a_ (fun _ => Qd) <| a_ (fun _ => ZQ) <| QF (hd := W5 hf0 hf5) ?_
   refine a_ (fun _ => Q5) <| a_ (fun _ => CV) <| a_ (fun _ => Qe) <| a_ (fun _ => Qd) <| a_ (fun _ => Qd) <| a_ (fun _ => ZQ) ?_
   refine Gu ?_ ?_
   ·simp only [Jm, ZE, T.cells, Value.cells]; simp; omega
   rw [Wk hf0 hf5]
   have hw : WkH b (Zg n m) out ((b, ⟨tW, wkC (Zg n m) (.slice p (n.log.map een).length c) (.slice q (out.map ms).length d), 23⟩) :: (Hl ++ (Ho ++ []))) := ⟨_, _, Hl, Ho, h1, h2, rfl⟩
   apply an
   refine zC ?_
   refine cr <| s_ Qa <| s_ Qe <| s_ Qd <| s_ Xp <| s_ (Vd hL (Qg.cons (Qz.agg (Q6 (Zg n m) (h1.lend (by intro p hp; simp [hp])))) Qg.nil)) <| s_ Qa <| s_ QH <| s_ QH <| s_ Qc <| s_ Qc <| zC ?_
   refine ca [0, 1, 2, 3, 4, 5, 6, 7, 8, 9] [] <| a_ (fun _ => Qa) <| a_ (fun _ => Qs) <| a_ (fun _ => Qm) <| a_ (fun _ => Qe) <| a_ (fun _ => Qd) <| a_ (fun _ => Qd) <| a_ (fun _ => ZQ) <| QF (hd := UV (n := Zg n m) hf0 hf5) ?_
   refine a_ (fun _ => Qa) <| a_ (fun _ => Of) ?_
   apply an
   refine zC ?_
   refine ci ?_ ?_
   ·intro hle
    refine zC ?_
    refine cr <| s_ Qa <| s_ Qs <| s_ Qm ?_
    refine QN (Og m.frm hf0 hf5 (by show n.log.length ≤ _; omega) (by show _ ≤ n.base; omega) (by show n.base ≤ _; omega) ?_ (by omega) hw) (fun r H' ⟨hr, h3⟩ => ?_)
    ·have : (Zg n m).next.get m.frm.toNat = max (max (min (n.next.get m.frm.toNat - 1) (m.index + 1)) 1) (n.mtch.get m.frm.toNat + 1) := D1 _ hf0 hf5 _
     rw [this]; omega
    subst hr
    refine zC ?_
    refine rhn kR ⟨rfl, ?_⟩ (Le.refl _)
    have hle' : (Zg n m).next.get m.frm.toNat ≤ QY n := hle
    rw [Yd, if_neg hc, if_neg hy, if_pos hle']
    exact h3
   ·intro hle
    refine zC ?_
    refine rhn kR ⟨rfl, ?_⟩ (Le.refl _)
    have hle' : ¬ (Zg n m).next.get m.frm.toNat ≤ QY n := hle
    rw [Yd, if_neg hc, if_neg hy, if_neg hle', List.append_nil]
    exact hw
def LK (n : Nd) (e : En) : Nd := { n with log := n.log ++ [⟨n.term, e.conf, e.cmd⟩], mtch := n.mtch.set n.id.toNat (n.base + (n.log.length + 1)) }
def RK (n : Nd) (e : En) : Nd := Q2 (LK n e)
theorem R8 (l : List En) (e : En) : lc (l ++ [e]) (l ++ [e]).length = if e.conf ≠ 0 then some (l.length, e.conf) else lc l l.length := by
 rw [List.length_append, List.length_singleton, lc]
 have : (l ++ [e]).getD l.length default = e := by simp [List.getD_eq_getElem?_getD]
 rw [this]
 split
 ·rfl
 ·exact Lb _ _ _ (Nat.le_refl _)
theorem Bd.put {n : Nd} {e : En} (h : Bd n) (hl : n.log.length < 100000000) (h0 : 0 ≤ e.conf) (h1 : e.conf ≤ 31) : Bd (LK n e) := by
 have hc : (QK (LK n e)).2 = if e.conf ≠ 0 then e.conf else (QK n).2 := by
  have := R8 n.log ⟨n.term, e.conf, e.cmd⟩
  by_cases hz : e.conf ≠ 0
  ·rw [if_pos hz] at this ⊢
   simp only [QK, LK, this]
  ·rw [if_neg hz] at this ⊢
   simp only [QK, LK, this]
 refine ⟨h.id0, h.id5, by simp [LK]; omega, h.base0, h.base1, ?_, ?_⟩ <;> rw [hc] <;> split
 ·exact h0
 ·exact h.conf0
 ·exact h1
 ·exact h.conf1
def QZ (n : Nd) : Nd := { n with role := 0, wait := 0 }
theorem Vt {b : Nat} {n : Nd} {out : List Ms} {H : Qb} (m : Ms) (hb : out.length ≤ 1000) (hw : WkH b n out H) :
  FnH Tryz.prog 157 [pW b, ms m] H (fun r H' => r = .v (.bool (decide (¬ m.term < n.term))) ∧ WkH b (if m.term < n.term then n else QZ n) (if m.term < n.term then out ++ [XT n m.frm (Y4 false 0)] else out) H') :=
 (E6 m hb hw).mono fun r H' h => by
  by_cases hlt : m.term < n.term
  ·rw [if_pos hlt] at h
   rw [if_pos hlt, if_pos hlt]
   exact ⟨by rw [h.1]; simp [hlt, eB], h.2⟩
  ·rw [if_neg hlt] at h
   rw [if_neg hlt, if_neg hlt]
   exact ⟨by rw [h.1]; simp [hlt, eB], h.2⟩
def XB (n : Nd) (m : Ms) : Nat → List En
 | 0 => n.log
 | i + 1 => if m.index - n.base + i < (XB n m i).length ∧ ((XB n m i).getD (m.index - n.base + i).toNat default).term = (m.entries.getD i default).term then XB n m i
  else (XB n m i).take (min (m.index - n.base + i) (XB n m i).length).toNat ++ [m.entries.getD i default]
theorem Vm (n : Nd) (m : Ms) : ∀ i, (XB n m i).length ≤ n.log.length + i
 | 0 => Nat.le_refl _
 | i + 1 => by
  have := Vm n m i
  rw [XB]
  split
  ·omega
  ·simp; omega
def Rp (n : Nd) (m : Ms) : Nd := { QZ n with log := XB n m m.entries.length, commit := max n.commit (min m.commit (m.index + m.entries.length)) }
def Uw (n : Nd) (m : Ms) : Nd × List Ms := if m.term < n.term then (n, [XT n m.frm (Y4 false 0)]) else
 if m.index < n.base then (QZ n, [XT (QZ n) m.frm (Y4 true n.base)]) else
 if QY n < m.index ∨ ¬ Ya n m.index = m.logTerm then (QZ n, [XT (QZ n) m.frm (Y4 false (min (QY n) (m.index - 1)))]) else
 (Rp n m, [XT (Rp n m) m.frm (Y4 true (m.index + m.entries.length))])
theorem Im {k : Nat} {xs : List T} {i j : Nat} {x d : T} (hk : ∀ y ∈ xs, y.cells.length = k) (h : xs[i]? = some x) (hj : j < k) (hd : x.cells[j]? = some d) : (xs.flatMap T.cells)[0 + i * k + j]? = some d := by
 have ⟨h1, h2⟩ := Vw hk h
 have h3 : (((xs.flatMap T.cells).drop (i * k)).take k)[j]? = some d := by rw [h1, hd]
 rw [List.getElem?_take, if_pos hj, List.getElem?_drop] at h3
 rw [Nat.zero_add]
 exact h3
theorem OE.at {l : List En} {p : Option Addr} {n c : Nat} {Hs : Qb} (h : OE l (.slice p n c) Hs) : ∃ bl, 0 < l.length → p = some ⟨bl, 0, none⟩ ∧ (bl, (⟨tE, (l.map een).flatMap T.cells, c * 3⟩ : Blk)) ∈ Hs := by
 rcases h with ⟨h, _⟩ | ⟨bl, c', e, _, rfl⟩
 ·have : l = [] := by simpa using h
  exact ⟨0, fun h => by rw [this] at h; simp at h⟩
 ·cases e; exact ⟨bl, fun _ => ⟨rfl, List.mem_singleton.2 rfl⟩⟩
theorem OE.sub0 {l : List En} {p : Option Addr} {n c : Nat} {Hs : Qb} (h : OE l (.slice p n c) Hs) (j : Nat) : Jv 3 p c 0 j = .slice p j c := by
 rcases h with ⟨_, ⟨q, e⟩, _⟩ | ⟨bl, c', e, _, _⟩
 ·cases e; cases p <;> rfl
 ·cases e
  unfold Jv
  by_cases hc : c = 0 <;> simp [hc, Addr.add_mk]
theorem CF {b : Nat} {n : Nd} {out : List Ms} {H : Qb} (m : Ms) (hn : Bd n) (hl : n.log.length + m.entries.length ≤ 100000000) (hi0 : -50000000000 ≤ m.index) (hi1 : m.index ≤ 50000000000) (ho : out.length ≤ 900) (hw : WkH b n out H) :
  FnH Tryz.prog 135 [pW b, ms m] H (fun r H' => r = .tup [] ∧ WkH b (Uw n m).1 (out ++ (Uw n m).2) H') := by
 have hb0 := hn.base0
 have hb1 := hn.base1
 have hlog := hn.log
 have hL := Jq (QZ n) (by show n.log.length ≤ _; omega) (by show _ ≤ n.base; omega) (by show n.base ≤ _; omega)
 refine fe Tryz.func135 fun S0 w0 => ?_
 show Sim _ _ [(0, pW b), (1, T.agg (msC m (Y7 m.entries)))] _ _
 refine zC ?_
 apply cr
 refine XO fun b3 _ => ?_
 refine zC ?_
 refine Zf 3 (by simp [msC]) ?_
 refine zC ?_
 refine cr <| s_ Qa <| s_ Y6 ?_
 refine QN (Vt m (by omega) hw) (fun r H' ⟨hr, hw⟩ => ?_)
 subst hr
 refine s_ XY <| zC ?_
 refine ci ?_ ?_
 ·intro hc
  have hlt : m.term < n.term := Decidable.not_not.1 hc
  rw [if_pos hlt, if_pos hlt] at hw
  refine zR ?_
  refine rh kR ⟨rfl, ?_⟩ (Le.refl _)
  rw [Uw, if_pos hlt]
  exact hw
 intro hc
 have hlt : ¬ m.term < n.term := fun h => hc (fun h' => h' h)
 rw [if_neg hlt, if_neg hlt] at hw
 have hw1 := hw
 obtain ⟨vl, vo, Hl, Ho, h1, h2, rfl⟩ := hw
 obtain ⟨p, c, rfl⟩ := h1.len
 obtain ⟨q, d, rfl⟩ := h2.len
 refine zC ?_
 refine cr <| s_ Qa <| s_ Qe <| s_ Qd <| s_ Xp <| s_ (Vd hL (Qg.cons (Qz.agg (Q6 (QZ n) (h1.lend (by intro p hp; simp [hp])))) Qg.nil)) <| s_ Qa <| s_ QH <| s_ QH <| s_ Qc <| s_ Qc <| zC ?_
 refine ca [0, 1, 2, 3, 4, 5, 6, 7, 8] [] <| a_ (fun _ => Qs) <| a_ (fun _ => Qm) <| a_ (fun _ => Qa) <| a_ (fun _ => Qe) <| a_ (fun _ => Qd) <| a_ (fun _ => Qd) <| QF ?_
 refine a_ (fun _ => QX) <| a_ (fun _ => Qc) ?_
 apply an
 refine zC ?_
 refine ci ?_ ?_
 ·intro hlo
  refine zC ?_
  refine ca [0, 1, 2, 3, 4, 5, 6, 7, 8] [8] <| a_ (fun _ => Qa) <| a_ (fun _ => Qs) <| a_ (fun _ => Qm) <| a_ (fun _ => Qa) <| a_ (fun _ => Qe) <| a_ (fun _ => Qd) <| a_ (fun _ => Qd) <| QF ?_
  refine ID (FnH.of_le ?_ (Y3 m.frm true n.base (by omega) hw1)) (fun r H' ⟨hr, h3⟩ => ⟨zd, ?_⟩)
  ·exact zM
  ·refine zD ?_
   subst hr
   apply an
   refine zC ?_
   refine zR ?_
   refine rh kR ⟨rfl, ?_⟩ (Le.refl _)
   have hlo' : m.index < n.base := hlo
   rw [Uw, if_neg hlt, if_pos hlo']
   exact h3
 intro hlo
 have hlo' : ¬ m.index < n.base := hlo
 have hT := UT (QZ n) m.index (by show n.log.length ≤ _; omega) (by simp only [big]; show _ ≤ n.base; omega) (by simp only [big]; show n.base ≤ _; omega) (by simp only [big]; omega) (by simp only [big]; omega)
 refine zC ?_
 refine ca [0, 1, 2, 3, 4, 5, 6, 7, 8, 9, 10, 11, 12, 13, 14, 15] [] <| a_ (fun _ => Qs) <| a_ (fun _ => Qm) <| a_ (fun _ => Qa) <| a_ (fun _ => XZ) <| a_ (fun _ => Qa) <| Xw (fun _ hg => Qa) ?_
 refine Xw (fun _ hg => Qe (hx := u_ hg)) ?_
 refine Xw (fun _ hg => Qd (hx := u_ hg)) ?_
 refine Xw (fun _ hg => Qs) ?_
 refine Xw (fun _ hg => Qm (hx := u_ hg)) ?_
 refine CE (G := (b, _) :: (Hl ++ (Ho ++ []))) (fun _ => hT) (fun _ => Qg.cons (W4 (n := QZ n) h1 (by intro p hp; simp [hp]) List.mem_cons_self) (Qg.cons (Qz.le (Le.refl _)) Qg.nil)) ⟨[], UF⟩ ?_ (fun hg => by refine Qp (u_ hg) (Qp (u_ hg) Xj))
 refine Xw (fun _ hg => Qs) ?_
 refine Xw (fun _ hg => Qm (hx := u_ hg)) ?_
 refine Xw (fun _ hg => Yw (hx := u_ hg) (hy := u_ hg)) ?_
 refine a_ (fun _ => Yc) <| a_ (fun _ => Qc) ?_
 apply an
 refine zC ?_
 refine ci ?_ ?_
 ·intro hno
  refine zC ?_
  refine cr <| s_ Qa <| s_ Qs <| s_ Qm <| s_ Qa <| s_ Qs <| s_ Qm <| s_ ZP <| s_ WZ ?_
  refine QN (FnH.of_le ?_ (Y3 m.frm false (min (QY n) (m.index - 1)) (by omega) hw1)) (fun r H' ⟨hr, h3⟩ => ?_)
  ·exact zM
  ·subst hr
   refine zC ?_
   refine zR ?_
   refine rh kR ⟨rfl, ?_⟩ (Le.refl _)
   have hno' : QY n < m.index ∨ ¬ Ya n m.index = m.logTerm := hno
   rw [Uw, if_neg hlt, if_neg hlo', if_pos hno']
   exact h3
 intro hno
 have hno' : ¬ (QY n < m.index ∨ ¬ Ya n m.index = m.logTerm) := hno
 refine zC ?_
 refine cr <| s_ Qs <| s_ Qm ?_
 (first | refine s_ QR ?_ | refine s_ QP ?_)
 refine s_ Qa <| zC ?_
 apply Qt (σ := Nat × Qb) (ok := fun s => s.1 ≤ m.entries.length ∧ WkH b { QZ n with log := XB n m s.1 } out s.2) (env := fun s => [(68, ei (s.1 : Nat)), (67, ei ((m.entries.map een).length : Nat)), (66, Y7 m.entries), (3, .adr (.agg (msC m (Y7 m.entries)))), (0, pW b)])
  (heap := fun s => s.2) (μ := fun s => m.entries.length - s.1) (s0 := (0, (b, ⟨tW, wkC (QZ n) (.slice p (n.log.map een).length c) (.slice q (out.map ms).length d), 23⟩) :: (Hl ++ (Ho ++ []))))
 ·exact ⟨Nat.zero_le _, hw1⟩
 ·exact eL
 ·exact kR
 rintro ⟨i, H⟩ ⟨hi, hw⟩
 simp only at hi hw
 clear h1 h2 hw1
 obtain ⟨vl, vo, Hl, Ho, h1, h2, rfl⟩ := hw
 simp only at h1
 obtain ⟨p, c, rfl⟩ := h1.len
 obtain ⟨q, d, rfl⟩ := h2.len
 have hlk := Vm n m i
 have hqb : (QZ n).base = n.base := rfl
 refine zC ?_
 refine cr <| s_ QX <| zC ?_
 refine ci ?_ ?_
 ·intro hlt2
  simp only [List.length_map] at hlt2
  have hix : i < m.entries.length := by omega
  have hge : m.entries.getD i default = m.entries[i] := by simp [hix]
  refine zC ?_
  refine cr <| s_ Qa ?_
  (first | refine s_ (Xu hix) ?_ | refine s_ (Xu hix2) ?_ | refine s_ Zz ?_ | refine s_ Jw ?_)
  (first | refine s_ Y6 ?_ | refine s_ Xp ?_)
  refine Yt fun b7 _ => ?_
  refine s_ Qc <| QC ?_
  refine zC ?_
  refine ca [0, 1, 2, 3, 4, 5, 6, 7, 8, 9, 10] [] <| a_ (fun _ => Qs) <| a_ (fun _ => Qm) <| a_ (fun _ => Qa) <| a_ (fun _ => Qe) <| a_ (fun _ => Qd) <| a_ (fun _ => Qd) <| QF ?_
  refine a_ (fun _ => ZP) <| a_ (fun _ => Qa) <| a_ (fun _ => Q5) <| a_ (fun _ => Qc) ?_
  apply an
  refine zC ?_
  rw [hqb]
  generalize hk : m.index - n.base + (i : Nat) = k
  have hk0 : 0 ≤ k := by omega
  obtain ⟨bl, hbl⟩ := h1.at
  refine zC ?_
  refine ca [0, 1, 2, 3, 4, 5, 6, 7, 8, 9, 10, 11, 12, 13, 14, 15, 16, 17, 18, 19, 20, 21] [] <| a_ (fun _ => Qa) <| a_ (fun _ => Qa) <| a_ (fun _ => Qe) <| a_ (fun _ => Qd) <| a_ (fun _ => Qd) <| QF ?_
  (first | refine a_ (fun _ => QR) ?_ | refine a_ (fun _ => QP) ?_)
  refine a_ (fun _ => QX) <| a_ (fun _ => Qa) <| Qy (fun _ hg => Qa) ?_
  refine Qy (fun _ hg => Qe (hx := u_ hg)) ?_
  refine Qy (fun _ hg => Qd (hx := u_ hg)) ?_
  refine Qy (fun _ hg => Qd (hx := u_ hg)) ?_
  refine Y2 ?_
  refine Qy (fun _ hg => Qa) ?_
  have hkl : k < (((XB n m i).map een).length : Nat) → k.toNat < (XB n m i).length := fun h => by rw [List.length_map] at h; omega
  refine Qy (p := k < (((XB n m i).map een).length : Nat)) (fun _ hg => CW (hbl (by have := hkl hg; omega)).1 (hx := u_ hg) (hy := u_ hg)) ?_
  refine Qy (fun _ hg => Qd (hx := u_ hg)) ?_
  refine IC (p := k < (((XB n m i).map een).length : Nat)) (b := bl) (fun hg => List.mem_cons_of_mem _ (List.mem_cons_of_mem _ (List.mem_append_left _ (hbl (by have := hkl hg; omega)).2))) (fun hg => Im (k := 3) (j := 0) (Gg _) (D7 _ (hkl hg)) (by decide) rfl) ?_
  refine Qy (fun _ hg => Qd) ?_
  refine Y2 ?_
  refine Qy (fun _ hg => Xy (hx := u_ hg) (hy := u_ hg)) ?_
  refine a_ (fun _ => Xz) ?_
  apply an
  refine zC ?_
  refine ci ?_ ?_
  ·intro hsame
   have hs : XB n m (i + 1) = XB n m i := by rw [XB, hk, hge, if_pos ⟨by have := hsame.1; rw [List.length_map] at this; exact this, hsame.2⟩]
   refine zC ?_
   refine cr <| s_ Q5 <| s_ Qa <| zC ?_
   refine ⟨(i + 1, _), ⟨hix, ?_⟩, by show m.entries.length - (i + 1) < m.entries.length - i; omega, ⟨Qk (by rfl) (Le.refl _), eL⟩, kS kR⟩
   simp only
   rw [hs]
   exact ⟨_, _, Hl, Ho, h1, h2, rfl⟩
  ·intro hdiff
   have hs : XB n m (i + 1) = (XB n m i).take (min k (XB n m i).length).toNat ++ [m.entries[i]] := by
    rw [XB, hk, hge, if_neg fun h => hdiff ⟨by rw [List.length_map]; exact h.1, h.2⟩]
   have hcap : ((XB n m i).map een).length ≤ c := OSl.cap h1
   refine zC ?_
   refine ca [0, 1, 2, 3, 4, 5, 6, 7, 8, 9, 10, 11, 12, 13, 14, 15, 16, 17, 18, 19, 20, 21] [17, 21] <| a_ (fun _ => Qa) <| a_ (fun _ => Qa) <| a_ (fun _ => Qe) <| a_ (fun _ => Qd) <| a_ (fun _ => Qd) <| QF ?_
   refine a_ (fun _ => Qa) <| a_ (fun _ => Qa) <| a_ (fun _ => Qe) <| a_ (fun _ => Qd) <| a_ (fun _ => Qd) <| QF ?_
   (first | refine a_ (fun _ => QR) ?_ | refine a_ (fun _ => QP) ?_)
   refine a_ (fun _ => WZ) <| a_ (fun _ => DJ (v := .slice p (min k (((XB n m i).map een).length : Nat)).toNat c) hcap (by exact h1.sub0 _)) <| Yz ?_
   refine a_ (fun _ => J9) ?_
   refine Bq (A := [_, _]) (B := Ho ++ []) (ys := [een m.entries[i]]) h1 (Gg _) (min k ((XB n m i).length : Nat)).toNat (fun v' Hl' h1' => ⟨zd, ?_⟩) (hx := ?_)
   ·refine zD ?_
    have h1 : OE ((XB n m i).take (min k (XB n m i).length).toNat ++ [m.entries[i]]) v' Hl' := by unfold OE; rw [List.map_append, List.map_take]; exact h1'
    clear h1'
    obtain ⟨p, c, rfl⟩ := h1.len
    refine a_ (fun _ => Qe) <| a_ (fun _ => Qd) <| a_ (fun _ => Qd) <| XJ ?_
    apply an
    refine zC ?_
    refine cr <| s_ Q5 <| s_ Qa <| zC ?_
    refine ⟨(i + 1, _), ⟨hix, ?_⟩, by show m.entries.length - (i + 1) < m.entries.length - i; omega, ⟨Qk (by rfl) (Le.refl _), eL⟩, kS kR⟩
    simp only
    rw [hs]
    exact ⟨_, _, Hl', Ho, h1, h2, rfl⟩
   ·refine Eq.trans (zl) ?_
    have e : (min k (((XB n m i).map een).length : Nat)).toNat = min (min k ((XB n m i).length : Nat)).toNat ((XB n m i).map een).length := by rw [List.length_map]; omega
    rw [e]
 ·intro hlt2
  simp only [List.length_map] at hlt2
  have : i = m.entries.length := by omega
  subst this
  have hel : ((m.entries.map een).length : Int) = (m.entries.length : Int) := by simp
  refine zC ?_
  refine cr <| s_ Qs <| s_ Qm <| s_ Qs <| s_ Qm ?_
  (first | refine s_ QR ?_ | refine s_ QP ?_)
  refine s_ Q5 <| s_ Qc <| zC ?_
  refine ca [0, 1, 2, 3, 4, 5, 6, 7, 8, 9, 10, 11, 12, 13, 14] [14] <| a_ (fun _ => Qa) <| a_ (fun _ => Qa) <| a_ (fun _ => Qe) <| a_ (fun _ => Qd) <| a_ (fun _ => Qd) <| QF ?_
  refine a_ (fun _ => Qs) <| a_ (fun _ => Qm) <| a_ (fun _ => Qa) <| a_ (fun _ => WZ) <| a_ (fun _ => LX) <| a_ (fun _ => Qe) <| a_ (fun _ => Qd) <| a_ (fun _ => Qd) <| XJ ?_
  apply an
  refine zC ?_
  refine cr <| s_ Qa <| s_ Qs <| s_ Qm <| s_ Qa ?_
  rw [hel]
  refine QN (FnH.of_le ?_ (Y3 m.frm true (m.index + m.entries.length) (by omega) (show WkH b (Rp n m) out _ from ⟨_, _, Hl, Ho, h1, h2, rfl⟩))) (fun r H' ⟨hr, h3⟩ => ?_)
  ·exact zM
  ·subst hr
   refine zC ?_
   refine rhn kR ⟨rfl, ?_⟩ (Le.refl _)
   rw [Uw, if_neg hlt, if_neg hlo', if_neg hno']
   exact h3
end Go.Proofs.YtjbokbikkcfjjaaGreat
