/-
  replica: a worker: its entries' own row, what it sends.
-/
import Derived.Test.YtjbokbikkcfjjaaGreatAam
set_option maxRecDepth 16000
set_option maxHeartbeats 8000000
set_option linter.all false
namespace Go.Proofs.YtjbokbikkcfjjaaGreat
open Go.Cap
attribute [local irreducible] POp Qi SO EOp Sim FnH T.gp
def tE : TypeId := 84
def tM : TypeId := 76
def tW : TypeId := 167
def OE (l : List En) (v : Value) (Hs : Qd) : Prop := OSl tE 3 (l.map een) v Hs
def OM (l : List Ms) (v : Value) (Hs : Qd) : Prop := OSl tM 11 (l.map ms) v Hs
theorem VM (l : List En) : ∀ x ∈ l.map een, x.cells.length = 3 := zk
theorem WV (l : List En) : ∀ x ∈ l.map een, x.solid := JX _ (fun _ => .inr ⟨_, rfl⟩) _
theorem ZX (l : List Ms) : ∀ x ∈ l.map ms, x.cells.length = 11 := zk
theorem ID (l : List Ms) : ∀ x ∈ l.map ms, x.solid := JX _ (fun _ => .inr ⟨_, rfl⟩) _
theorem DL : ∀ (l : List En), ((l.map een).flatMap T.cells).all T.isV = true
 | [] => rfl
 | e :: l => by simp only [List.map_cons, List.flatMap_cons, List.all_append, DL l, Bool.and_true]; rfl
theorem OE.plain {l : List En} {v : Value} {Hs : Qd} (h : OE l v Hs) : ∀ p ∈ Hs, p.2.vals.all T.isV = true := by
 rcases h with ⟨_, _, rfl⟩ | ⟨b, c, _, _, rfl⟩
 ·simp
 ·intro p hp
  rw [List.mem_singleton.1 hp]
  exact DL l
theorem OE.len {l : List En} {v : Value} {Hs : Qd} (h : OE l v Hs) : ∃ p c, v = .slice p (l.map een).length c := OSl.len h
theorem OM.len {l : List Ms} {v : Value} {Hs : Qd} (h : OM l v Hs) : ∃ p c, v = .slice p (l.map ms).length c := OSl.len h
theorem OE.cap {l : List En} {p : Option Addr} {n c : Nat} {Hs : Qd} (h : OE l (.slice p n c) Hs) : n ≤ c := OSl.cap h
theorem OE.lend {l : List En} {v : Value} {Hs G : Qd} (h : OE l v Hs) (hG : ∀ p ∈ Hs, p ∈ G) : QJ G (.v v) (.sl false (l.map een)) := OSl.lend h hG (VM l) (WV l)
theorem OM.lend {l : List Ms} {v : Value} {Hs G : Qd} (h : OM l v Hs) (hG : ∀ p ∈ Hs, p ∈ G) : QJ G (.v v) (mss l) := OSl.lend h hG (ZX l) (ID l)
theorem Jn (f : Bool) (l : List En) (hl : l.length ≤ 1000000000) : FnH Tryz.prog 72 [.sl f (l.map een)] [] (fun r H => ∃ v, r = .v v ∧ OE l v H) := by
 refine fe Tryz.func72 fun S0 w0 => ?_
 show Sim _ _ [(0, T.sl f (l.map een))] _ _
 refine zC ?_
 refine cr <| s_ Qb <| zC ?_
 refine cr <| s_ Qa ?_
 refine Zj 3 fun p c h1 _ => ?_
 refine s_ Kq <| zC ?_
 refine ci ?_ ?_
 ·intro hp
  have := h1 hp
  have : l = [] := by simpa using this
  subst this
  refine zC ?_
  refine cr <| s_ Qb <| zC ?_
  refine zR ?_
  exact rh kR ⟨_, rfl, YE⟩ (Le.refl _)
 ·intro hp
  refine zC ?_
  refine cr <| s_ XS ?_
  refine Zj 5 fun q c' _ h2 => ?_
  have := h2 rfl
  subst this
  cases l with
  | nil =>
   refine s_ Qa <| s_ (GJ (hxl := Le.slice0 q true)) ?_
   refine Zj 7 fun q c' _ h2 => ?_
   have := h2 rfl
   subst this
   refine s_ Qb <| zC ?_
   refine zR ?_
   exact rh kR ⟨_, rfl, J2⟩ (Le.refl _)
  | cons e l =>
   refine s_ Qa ?_
   refine Ot (ho := (J2 : OSl tE 3 [] _ [])) (A := []) (B := []) (fun _ h => by cases h) (fun v' Hs' ho => ?_)
   refine s_ Qb <| zC ?_
   refine zR ?_
   exact rh kR ⟨_, rfl, by simpa [OE] using ho⟩ (Le.refl _)
def SlE (G : Qd) (l : List En) (v : Value) : Prop := ∃ p c, v = .slice p l.length c ∧ l.length ≤ c ∧ QJ G (.v v) (.sl false (l.map een))
theorem OE.sle {l : List En} {v : Value} {Hs G : Qd} (h : OE l v Hs) (hG : ∀ p ∈ Hs, p ∈ G) : SlE G l v := by
 obtain ⟨p, c, rfl⟩ := h.len
 exact ⟨p, c, by simp, by simpa using h.cap, h.lend hG⟩
theorem SlE.sub {G : Qd} {l : List En} {p : Option Addr} {n c : Nat} (h : SlE G l (.slice p n c)) {lo hi : Nat} (h1 : lo ≤ hi) (h2 : hi ≤ l.length) : SlE G ((l.drop lo).take (hi - lo)) (YV 3 p c lo (hi - lo)) := by
 obtain ⟨p', c', e, hc, hl⟩ := h
 cases e
 have h3 := QJ.sub (P := Tryz.prog) (ty := 41) hl (zk) h1 (by simpa using h2) (by simp) hc
 have hlen : ((l.drop lo).take (hi - lo)).length = hi - lo := by simp; omega
 exact ⟨p.map fun a => if c = lo then a else a.add (lo * 3), c - lo, by rw [hlen]; rfl, by rw [hlen]; omega, by rw [List.map_take, List.map_drop]; exact h3⟩
abbrev SM (P : Program) (f : FuncId) (args : List T) (H : Qd) (d : T) : Prop := FnH P f args H fun r H' => H' = [] ∧ r = d
def wkC (n : Nd) (vl vo : Value) : List T := Qg n (.v vl) ++ [.v vo]
def WkH (b : Nat) (n : Nd) (out : List Ms) (H : Qd) : Prop := ∃ vl vo Hl Ho, OE n.log vl Hl ∧ OM out vo Ho ∧ H = (b, ⟨tW, wkC n vl vo, 23⟩) :: (Hl ++ (Ho ++ []))
def pW (b : Nat) : T := .v (.pointer (some ⟨b, 0, none⟩))
theorem OE.of {l : List En} : ∀ (r : T) (H : Qd), (∃ v, r = .v v ∧ OE l v H) → r.plain = true ∧ ∀ p ∈ H, p.2.vals.all T.isV = true := by
 rintro r H ⟨v, rfl, h⟩
 exact ⟨rfl, h.plain⟩
theorem Lp (n : Nd) (hl : n.log.length ≤ 1000000000) : FnH Tryz.prog 102 [nd n] [] (fun r H => ∃ b, r = pW b ∧ WkH b n [] H) := by
 have hc := Jn false n.log hl
 refine fe Tryz.func102 fun S0 w0 => ?_
 show Sim _ _ [(0, T.agg (Qg n (.sl false (n.log.map een))))] _ _
 refine zC ?_
 apply cr
 refine Xk fun b1 _ => ?_
 refine s_ Qb <| zC ?_
 refine cr <| s_ Qc <| s_ Ql ?_
 refine H6 (G := []) hc (Qk.le (LeL.refl _)) ⟨_, List.Perm.refl _⟩ OE.of ?_
 rintro r H1 ⟨v, rfl, ho⟩
 obtain ⟨p, c, rfl⟩ := ho.len
 refine QV List.perm_middle ?_
 refine s_ Qc <| Qn ?_
 refine zC ?_
 refine cr <| s_ Qw <| s_ (YH 23 [_, _, _, _, _, _, _, _, _, _, _, _, _, _, _, _, _, _, _, _, _, _, _]) ?_
 refine Xk fun b9 _ => ?_
 refine s_ Qb <| zC ?_
 refine zR ?_
 exact rh (.keep _ _ _ _ _ (YZ.refl _) (.skip _ _ _ kR)) ⟨b9, rfl, _, _, H1, [], ho, YE, rfl⟩ (Le.refl _)
theorem Xa {G : Qd} (n : Nd) {x y : T} (h : QJ G x y) : Qk G (Qg n x) (Qg n y) := by
 unfold Qg
 repeat (first | exact Qk.nil | (refine Qk.cons (QJ.le (Le.refl _)) ?_) | (refine Qk.cons h ?_))
def wkD (n : Nd) (out : List Ms) : List T := Qg n (XZ n.log) ++ [mss out]
theorem Ai {G Hl Ho : Qd} {n : Nd} {out : List Ms} {vl vo : Value} (h1 : OE n.log vl Hl) (h2 : OM out vo Ho) (hl : ∀ p ∈ Hl, p ∈ G) (ho : ∀ p ∈ Ho, p ∈ G) : Qk G (wkC n vl vo) (wkD n out) :=
 Qk.append (Xa n (h1.lend hl)) (Qk.cons (h2.lend ho) Qk.nil)
theorem Kb {G Hl Ho : Qd} {b : Nat} {n : Nd} {out : List Ms} {vl vo : Value} (h1 : OE n.log vl Hl) (h2 : OM out vo Ho) (hl : ∀ p ∈ Hl, p ∈ G) (ho : ∀ p ∈ Ho, p ∈ G) (hb : (b, (⟨tW, wkC n vl vo, 23⟩ : Blk)) ∈ G) : QJ G (pW b) (.adr (.agg (wkD n out))) :=
 QJ.ptr hb (.inr ⟨_, rfl⟩) (Ai h1 h2 hl ho) (by simp [T.cells, wkD]) (by simp [T.cells, wkD, wkC, Qg])
theorem WS {G Hl : Qd} {b : Nat} {n : Nd} {vl vo : Value} (h1 : OE n.log vl Hl) (hl : ∀ p ∈ Hl, p ∈ G) (hb : (b, (⟨tW, wkC n vl vo, 23⟩ : Blk)) ∈ G) : QJ G (pW b) (.adr (nd n)) :=
 QJ.ptr hb (.inr ⟨_, rfl⟩) (Xa n (h1.lend hl)) (by simp [nd, T.cells, Qg]) (by simp [nd, T.cells, wkC, Qg])
theorem Y9 {b : Nat} {n : Nd} {out : List Ms} {H : Qd} (hl : n.log.length ≤ 1000000000) (hw : WkH b n out H) : SM Tryz.prog 106 [pW b] H (.tup [nd n, mss out]) := by
 obtain ⟨vl, vo, Hl, Ho, h1, h2, rfl⟩ := hw
 have hc := Jn false n.log hl
 obtain ⟨p, c, rfl⟩ := h1.len
 obtain ⟨q, d, rfl⟩ := h2.len
 refine fe Tryz.func106 fun S0 w0 => ?_
 show Sim _ _ [(0, pW b)] _ _
 refine zC ?_
 apply cr
 refine Xt fun b2 _ => ?_
 refine s_ Qb <| zC ?_
 refine cr <| s_ Qa <| s_ Qa <| s_ Qe <| s_ Qc <| s_ Qc <| s_ Ql ?_
 refine Nq hc (Qk.cons (h1.lend (by intro p hp; simp [hp])) Qk.nil) OE.of ?_
 rintro r H1 ⟨v, rfl, ho⟩
 obtain ⟨p', c', rfl⟩ := ho.len
 refine QV (List.perm_middle.trans (.cons _ List.perm_middle)) ?_
 refine s_ Qe <| s_ Qc <| s_ Qc <| Qn ?_
 refine zC ?_
 refine zC ?_
 refine TD 0 (.adr (.agg (wkD n out))) (Kb ho h2 (by intro p hp; simp [hp]) (by intro p hp; simp [hp]) List.mem_cons_self) ?_
 refine zC ?_
 refine ca [0, 1, 2, 3, 4, 5, 6, 7, 8, 9] [8] <| a_ (fun _ => Qa) <| a_ (fun _ => Qe) <| a_ (fun _ => Uv) <| a_ (fun _ => XN) <| a_ (fun _ => Qa) <| a_ (fun _ => Qe) <| a_ (fun _ => Qj) <| a_ (fun _ => Qf) <| Q2 ?_
 refine a_ (fun _ => Qb) ?_
 apply an
 refine zC ?_
 refine zR ?_
 refine rt ?_
 exact Le.refl _
def QW (n : Nd) (to : Int) (m : Ms) : Ms := { m with frm := n.id, to := to, term := n.term }
theorem U8 {b : Nat} {n : Nd} {out : List Ms} {H : Qd} (to : Int) (m : Ms) (hb : out.length ≤ 1000) (hw : WkH b n out H) : FnH Tryz.prog 145 [pW b, ei to, ms m] H (fun r H' => r = .tup [] ∧ WkH b n (out ++ [QW n to m]) H') := by
 obtain ⟨vl, vo, Hl, Ho, h1, h2, rfl⟩ := hw
 obtain ⟨p, c, rfl⟩ := h1.len
 obtain ⟨q, d, rfl⟩ := h2.len
 refine fe Tryz.func145 fun S0 w0 => ?_
 show Sim _ _ [(0, pW b), (1, ei to), (2, T.agg (msC m (XZ m.entries)))] _ _
 refine zC ?_
 apply cr
 refine Xk fun b5 _ => ?_
 refine zC ?_
 refine ca [0, 1, 2, 3, 4, 5, 6, 7, 8, 9, 10, 11, 12, 13, 14, 15, 16] [12, 14, 16] <| a_ (fun _ => Qa) <| a_ (fun _ => Qe) <| a_ (fun _ => Qc) <| a_ (fun _ => Qc) <| Qv ?_
 refine a_ (fun _ => Qa) <| a_ (fun _ => Qa) <| a_ (fun _ => Qe) <| a_ (fun _ => Qc) <| a_ (fun _ => Qc) <| Qv ?_
 refine a_ (fun _ => Qc) <| Q2 ?_
 refine a_ (fun _ => Qc) <| Q2 ?_
 refine a_ (fun _ => Qc) <| Q2 ?_
 apply an
 refine zC ?_
 refine zC ?_
 refine ca [0, 1, 2, 3, 4, 5, 6, 7, 8, 9, 10] [7, 10] <| a_ (fun _ => Qa) <| a_ (fun _ => Qa) <| a_ (fun _ => Qe) <| a_ (fun _ => Qc) <| Qv ?_
 refine QR ?_
 refine a_ (fun _ => XS) ?_
 refine BV (ho := h2) (A := _ :: _ :: Hl) (B := []) (ZX out) (fun v' Hs' h3 => ⟨zd, ?_⟩)
 refine zD ?_
 obtain ⟨q', d', rfl⟩ := h3.len
 refine a_ (fun _ => Qe) <| a_ (fun _ => Qc) <| Q2 ?_
 apply an
 refine zC ?_
 exact rhn (.skip _ _ _ kR) ⟨rfl, _, _, Hl, Hs', h1, (by unfold OM; rw [List.map_append]; exact h3), rfl⟩ (Le.refl _)
def Nn : Ms := ⟨0, 0, 0, 0, 0, 0, 0, 0, false, [], []⟩
def Y4 (n : Nd) (to : Int) : Ms := QW n to (if n.next.get to.toNat ≤ n.base then ⟨5, 0, 0, 0, n.base, n.baseTerm, 0, n.baseConf, false, [], n.snap⟩
 else ⟨3, 0, 0, 0, n.next.get to.toNat - 1, termF n (n.next.get to.toNat - 1), n.commit, 0, false, (n.log.drop (min (n.next.get to.toNat - 1 - n.base) n.log.length).toNat).take 8, []⟩)
theorem five {to : Int} (h0 : 0 ≤ to) (h5 : to < 5) : to = 0 ∨ to = 1 ∨ to = 2 ∨ to = 3 ∨ to = 4 := by omega
theorem Ly {n : Nd} {vl vo : Value} {to : Int} (h0 : 0 ≤ to) (h5 : to < 5) : (wkC n vl vo)[0 + 0 + 12 + to.toNat * 1]? = some (ei (n.next.get to.toNat)) := by
 rcases five h0 h5 with rfl | rfl | rfl | rfl | rfl <;> rfl
theorem Tp {b : Nat} {n : Nd} {out : List Ms} {H : Qd} (to : Int) (h0 : 0 ≤ to) (h5 : to < 5) (hl : n.log.length ≤ 1000000000) (hb1 : -100000000000 ≤ n.base) (hb2 : n.base ≤ 100000000000) (hb3 : n.next.get to.toNat ≤ 100000000000) (hb : out.length ≤ 1000) (hw : WkH b n out H) :
  FnH Tryz.prog 105 [pW b, ei to] H (fun r H' => r = .tup [] ∧ WkH b n (out ++ [Y4 n to]) H') := by
 have hw' := hw
 obtain ⟨vl, vo, Hl, Ho, h1, h2, rfl⟩ := hw
 obtain ⟨p, c, rfl⟩ := h1.len
 obtain ⟨q, d, rfl⟩ := h2.len
 refine fe Tryz.func105 fun S0 w0 => ?_
 show Sim _ _ [(0, pW b), (1, ei to)] _ _
 refine zC ?_
 refine ca [0, 1, 2, 3, 4, 5, 6, 7, 8, 9, 10, 11, 12] [] <| a_ (fun _ => Qa) <| a_ (fun _ => Qa) <| a_ (fun _ => Qe) <| a_ (fun _ => Qc) <| a_ (fun _ => Qc) <| a_ (fun _ => Xp) <| Qv (hd := Ly h0 h5) ?_
 refine a_ (fun _ => Qa) <| a_ (fun _ => Qe) <| a_ (fun _ => Qc) <| a_ (fun _ => Qc) <| Qv ?_
 refine a_ (fun _ => Ej) ?_
 apply an
 refine zC ?_
 refine ci ?_ ?_
 ·intro hc
  refine zC ?_
  refine ca [0, 1, 2, 3, 4, 5, 6, 7, 8, 9, 10, 11, 12, 13, 14, 15, 16, 17, 18, 19, 20, 21, 22, 23] [23] <| a_ (fun _ => Qa) <| a_ (fun _ => Qa) <| a_ (fun _ => Qa) <| a_ (fun _ => Qe) <| a_ (fun _ => Qc) <| a_ (fun _ => Qc) <| Qv ?_
  refine a_ (fun _ => Qa) <| a_ (fun _ => Qe) <| a_ (fun _ => Qc) <| a_ (fun _ => Qc) <| Qv ?_
  refine a_ (fun _ => Qa) <| a_ (fun _ => Qe) <| a_ (fun _ => Qc) <| a_ (fun _ => Qc) <| Qv ?_
  refine a_ (fun _ => Qa) <| a_ (fun _ => Qe) <| a_ (fun _ => Qc) <| a_ (fun _ => Qc) <| Qv ?_
  refine a_ (fun _ => YH 11 [_, _, _, _, _, _, _, _, _, _, _]) ?_
  refine BW (FnH.of_le ?_ (U8 to ⟨5, 0, 0, 0, n.base, n.baseTerm, 0, n.baseConf, false, [], n.snap⟩ hb hw')) (fun r H' ⟨hr, h3⟩ => ⟨zd, ?_⟩)
  ·exact zM
  ·refine zD ?_
   subst hr
   apply an
   refine zC ?_
   refine zR ?_
   refine rh kR ⟨rfl, ?_⟩ (Le.refl _)
   rw [Y4, if_pos hc]
   exact h3
 ·intro hc
  have ht := VZ n (n.next.get to.toNat - 1) hl (by simp only [big]; omega) (by simp only [big]; omega) (by simp only [big]; omega) (by simp only [big]; omega)
  refine zC ?_
  refine cr <| s_ Qa <| s_ Qa <| s_ Qe <| s_ Qc <| s_ Qc <| s_ Xp <| s_ (Ql (hd := Ly h0 h5)) <| s_ Yr <| s_ Qb <| zC ?_
  refine zC ?_
  refine ca [0, 1, 2, 3, 4, 5, 6, 7, 8, 9, 10, 11, 12, 13, 14, 15, 16, 17, 18, 19, 20] [] <| a_ (fun _ => Qa) <| a_ (fun _ => Qe) <| a_ (fun _ => Qc) <| a_ (fun _ => Qc) <| Qv ?_
  refine a_ (fun _ => Qa) <| a_ (fun _ => Qa) <| a_ (fun _ => Qe) <| a_ (fun _ => Qc) <| a_ (fun _ => Qc) <| Qv ?_
  refine a_ (fun _ => Yr) <| a_ (fun _ => Qa) <| a_ (fun _ => Qe) <| a_ (fun _ => Qc) <| a_ (fun _ => Qc) <| Qv ?_
  (first | refine a_ (fun _ => QS) ?_ | refine a_ (fun _ => QP) ?_)
  refine a_ (fun _ => WO) ?_
  obtain ⟨m, hm⟩ : ∃ m : Nat, (m : Int) = min (n.next.get to.toNat - 1 - n.base) ((n.log.map een).length : Nat) := ⟨(min (n.next.get to.toNat - 1 - n.base) ((n.log.map een).length : Nat)).toNat, by omega⟩
  have hml : m ≤ n.log.length := by simp only [List.length_map] at hm; omega
  have hs5 := (h1.sle (G := (b, ⟨tW, wkC n (.slice p (n.log.map een).length c) (.slice q (out.map ms).length d), 23⟩) :: (Hl ++ (Ho ++ []))) (by intro p hp; simp [hp]))
  have hs5' := SlE.sub hs5 (lo := m) (hi := n.log.length) hml (Nat.le_refl _)
  rw [List.take_of_length_le (by simp)] at hs5'
  obtain ⟨p5, c5, e5, hc5, hl5⟩ := hs5'
  rw [← hm]
  refine a_ (fun _ => Iu (i := (m : Int)) (p := p) (n := (n.log.map een).length) (c := c) h1.cap (by simp only [List.length_map, Int.toNat_natCast]; exact e5)) <| a_ (fun _ => Qb) ?_
  apply an
  refine zC ?_
  refine zC ?_
  refine zC ?_
  refine ca [0, 1, 2, 3, 4, 5, 6, 7, 8, 9, 10, 11, 12, 14, 15, 16, 17, 18, 13, 19, 20] [13, 20] <| a_ (fun _ => Qa) <| a_ (fun _ => Qa) <| a_ (fun _ => Qa) <| a_ (fun _ => Qa) <| a_ (fun _ => Qe) <| a_ (fun _ => Qc) <| a_ (fun _ => Qa) ?_
  refine KU (G := (b, _) :: (Hl ++ (Ho ++ []))) ht (Qk.cons (WS h1 (by intro p hp; simp [hp]) List.mem_cons_self) (Qk.cons (QJ.le (Le.refl _)) Qk.nil)) ⟨[], W9⟩ ?_
  refine a_ (fun _ => Qa) <| a_ (fun _ => Qa) ?_
  (first | refine a_ (fun _ => QS) ?_ | refine a_ (fun _ => QP) ?_)
  refine a_ (fun _ => WO) ?_
  obtain ⟨k, hk⟩ : ∃ k : Nat, (k : Int) = min (((n.log.drop m).length : Nat) : Int) 8 := ⟨min (n.log.drop m).length 8, by omega⟩
  have hs6 := SlE.sub ⟨p5, c5, rfl, hc5, e5 ▸ hl5⟩ (lo := 0) (hi := k) (Nat.zero_le _) (by omega)
  simp only [List.drop_zero, Nat.sub_zero] at hs6
  obtain ⟨p6, c6, e6, hc6, hl6⟩ := hs6
  rw [← hk]
  refine a_ (fun _ => Di (j := (k : Int)) (p := p5) (n := (n.log.drop m).length) (c := c5) hc5 (by simp only [Int.toNat_natCast]; exact e6)) <| a_ (fun _ => Qa) <| a_ (fun _ => Qe) <| a_ (fun _ => Qc) <| a_ (fun _ => Qc) <| Qv ?_
  refine SJ (Jn false ((n.log.drop m).take k) (by simp; omega)) (Qk.cons (e6 ▸ hl6) Qk.nil) ⟨[], W9⟩ OE.of ?_
  rintro r H1 ⟨v, rfl, ho⟩
  obtain ⟨p7, c7, rfl⟩ := ho.len
  refine ⟨zd, ?_⟩
  refine zD ?_
  refine a_ (fun _ => YH 11 [_, _, _, _, _, _, _, _, _, _, _]) ?_
  refine BW (FnH.lend (G := H1) ?_ (U8 to ⟨3, 0, 0, 0, n.next.get to.toNat - 1, termF n (n.next.get to.toNat - 1), n.commit, 0, false, (n.log.drop m).take k, []⟩ hb hw')) (fun r H' ⟨hr, h3⟩ => ⟨zd, ?_⟩)
  ·refine Qk.cons (QJ.le (Le.refl _)) (Qk.cons (QJ.le (Le.refl _)) (Qk.cons (QJ.agg ?_) Qk.nil))
   repeat (first | exact Qk.nil | (refine Qk.cons (QJ.le (Le.refl _)) ?_) | (refine Qk.cons (ho.lend fun _ h => h) ?_))
  ·refine zD ?_
   subst hr
   apply an
   refine zC ?_
   refine rhn kR ⟨rfl, ?_⟩ (Le.refl _)
   have e1 : (min (n.next.get to.toNat - 1 - n.base) (n.log.length : Int)).toNat = m := by simp only [List.length_map] at hm; omega
   have e2 : (n.log.drop m).take 8 = (n.log.drop m).take k := by
    rw [List.take_eq_take_iff]; omega
   rw [Y4, if_neg hc, e1, e2]
   exact h3
end Go.Proofs.YtjbokbikkcfjjaaGreat
namespace Go.Cap
section
variable {P : Program} {t : Env} {H : Qd} {dst : Option Tmp} {tp : TypeId} {pos : String} {aft : Array Edge} {g : Option (Nat × Bool)} {ty : TypeId} {x l' h' m' : Operand} {dx : T} {f : Bool} {xs : List T} {k k' k2 : IntKind} {i j m : Int} {d : T} {by_ kk : Nat}
theorem CE {S : Nat → Prop} {w : World} {p : Option Addr} {n c hi : Nat} (h : Rel S w (.sl f xs) (.slice p n c)) (h2 : hi ≤ xs.length) (hk : ∀ x ∈ xs, x.cells.length = kk) (h0 : 0 < kk) : Rel S w (.sl true (xs.take hi)) (.slice p hi hi) := by
 cases h with
 | nil =>
  have : hi = 0 := by simpa using h2
  subst this
  simp only [List.take_zero]
  exact .nil _ _ _ (fun _ => rfl)
 | sl _ _ b o cap vs k cs ty2 fz hS hb hr hg hf hc =>
  have hvl := hr.length
  have hlen : (vs.take hi).length = hi := by rw [List.length_take]; omega
  have := Rel.sl (S := S) (w := w) true (xs.take hi) b o hi (vs.take hi) k cs ty2 fz hS hb (hr.take hi) ⟨fun v hv => hg.1 v (List.mem_of_mem_take hv), by
   rw [← Up _ _ hg.1, ← hg.2, List.take_take, hlen]
   congr 1
   have : hi * k ≤ vs.length * k := Nat.mul_le_mul_right _ (by omega)
   omega⟩ (fun _ => hlen.symm) (by omega)
  rwa [hlen] at this
theorem MT {l h mx : Operand} (hx : t.ev x = dx) (hxl : Le dx (.sl f xs)) (hl : t.ev l = .v (.int k i)) (hh : t.ev h = .v (.int k' j)) (hm : t.ev mx = .v (.int k2 j)) [hz : QB P ty d by_] (h0 : 0 ≤ i) (h1 : i ≤ j) (h2 : j ≤ xs.length) (hk : ∀ x ∈ xs, x.cells.length = d.cells.length) :
  POp P t H ⟨dst, .slice ty x (some l) (some h) (some mx), tp, pos, aft, g⟩ (.sl true ((xs.drop i.toNat).take (j.toNat - i.toNat))) :=
 POp.still fun S w a _ _ hr => by
  have e1 := hr x (by simp [Op.operands]); rw [hx] at e1
  have e2 := hr l (by simp [Op.operands]); rw [hl] at e2
  have e3 := hr h (by simp [Op.operands]); rw [hh] at e3
  have e4 := hr mx (by simp [Op.operands]); rw [hm] at e4
  replace e1 := hxl _ _ _ e1
  obtain ⟨e, inf, hu, hinf, hs, hp⟩ := YX (P := P) (ty := ty) (d := d) (by_ := by_)
  obtain ⟨p, c, hsh, hle, _⟩ := Ya e1
  rw [hsh] at e1
  have hf := CE (hi := j.toNat) e1 (by omega) (by rw [← hs] at hk; exact hk) hp
  have hb1 : (Instr.sliceBounds true xs.length c (some (a.eval l)) (some (a.eval h)) (some (a.eval mx))).run P w = .ok (i.toNat, j.toNat, j.toNat) w := by
   rw [e2.v_eq, e3.v_eq, e4.v_eq]
   simp [Instr.sliceBounds, Xq (P := P) (show 0 ≤ j by omega) (show j ≤ (c : Nat) by omega), Xq (P := P) (show 0 ≤ j by omega) (show j ≤ (j.toNat : Nat) by omega), Xq (P := P) h0 (show i ≤ (j.toNat : Nat) by omega)]
  have hb2 : (Instr.sliceBounds true j.toNat j.toNat (some (a.eval l)) (some (a.eval h)) none).run P w = .ok (i.toNat, j.toNat, j.toNat) w := by
   rw [e2.v_eq, e3.v_eq]
   simp [Instr.sliceBounds, Xq (P := P) (show 0 ≤ j by omega) (show j ≤ (j.toNat : Nat) by omega), Xq (P := P) h0 (show i ≤ (j.toNat : Nat) by omega)]
  have hlen : (xs.take j.toNat).length = j.toNat := by rw [List.length_take]; omega
  obtain ⟨v, hv, hrel⟩ := V6 (P := P) (ty := ty) (inf := inf) (lo := i.toNat) (hi := j.toNat) (ol := some (a.eval l)) (oh := some (a.eval h)) (om := none) hf (by rw [hs]; exact fun x hx => hk x (List.mem_of_mem_take hx)) hp (by omega) (by omega) hu hinf (by
   rw [hlen]; exact hb2)
  have heq : (Instr.sliceAt ty (.slice p xs.length c) (some (a.eval l)) (some (a.eval h)) (some (a.eval mx))).run P w = (Instr.sliceAt ty (.slice p j.toNat j.toNat) (some (a.eval l)) (some (a.eval h)) none).run P w := by
   simp [Instr.sliceAt, Instr.slice, run_underlying hu, hb1, hb2]
  rw [← heq] at hv
  refine ⟨v, by simp [execOp, hsh, hv], ?_⟩
  have hb : Nat.beq j.toNat (xs.take j.toNat).length = true := by rw [hlen]; exact Nat.beq_refl _
  have e5 : ((xs.take j.toNat).drop i.toNat).take (j.toNat - i.toNat) = (xs.drop i.toNat).take (j.toNat - i.toNat) := by
   rw [List.drop_take, List.take_take, Nat.min_self]
  rw [hb, Bool.and_true, e5] at hrel
  exact hrel
theorem HK [hz : QB P ty d by_] (hx : t.ev x = dx := by exact zl) (hxl : Le dx (.sl false xs) := by exact zL) (hl : t.ev l' = .v (.int k i) := by exact zl) (h0 : 0 ≤ i := by exact zo) (h2 : i ≤ xs.length := by exact zo) (hk : ∀ x ∈ xs, x.cells.length = d.cells.length := by exact zk) :
  POp P t H ⟨dst, .slice ty x (some l') none none, tp, pos, aft, g⟩ (.sl false (xs.drop i.toNat)) := UM hx hxl hl h0 h2 hk
theorem HL [hz : QB P ty d by_] (hx : t.ev x = dx := by exact zl) (hxl : Le dx (.sl false xs) := by exact zL) (hl : t.ev l' = .v (.int k i) := by exact zl) (h0 : 0 ≤ i := by exact zo) (h2 : i ≤ xs.length := by exact zo) (hk : ∀ x ∈ xs, x.cells.length = d.cells.length := by exact zk) :
  POp P t H ⟨dst, .slice ty x none (some l') none, tp, pos, aft, g⟩ (.sl false (xs.take i.toNat)) := UN hx hxl hl h0 h2 hk
end
end Go.Cap
namespace Go.Proofs.YtjbokbikkcfjjaaGreat
open Go.Cap
attribute [local irreducible] POp Qi SO EOp Sim FnH T.gp
def tR : TypeId := 179
def RdH (b : Nat) (l : List UInt8) : Qd := [(b, ⟨tR, [bl l, ei 0], 2⟩)]
theorem PL (f : Bool) (l : List UInt8) (hl : l.length ≤ 1000000000000) : FnH Tryz.prog 97 [.sl f (l.map eb)] [] (fun r H => ∃ b, r = pW b ∧ H = RdH b l) := by
 have hc := Jo f l hl
 refine fe Tryz.func97 fun S0 w0 => ?_
 show Sim _ _ [(0, T.sl f (l.map eb))] _ _
 refine zC ?_
 refine cr <| s_ Qb <| zC ?_
 refine cr <| s_ Qa <| s_ (Qr (hc)) <| s_ (YH 2 [_, _]) ?_
 refine Xk fun b6 _ => ?_
 refine s_ Qb <| zC ?_
 refine zR ?_
 exact rh kR ⟨_, rfl, rfl⟩ (Le.refl _)
theorem Gf {b : Nat} {l : List UInt8} (n : Nat) (hn : n ≤ l.length) (hl : l.length ≤ 1000000000000) : FnH Tryz.prog 155 [pW b, ei n] (RdH b l) (fun r H => r = bl (l.take n) ∧ H = RdH b (l.drop n)) := by
 refine fe Tryz.func155 fun S0 w0 => ?_
 show Sim _ _ [(0, pW b), (1, ei n)] _ _
 unfold RdH bl
 refine zC ?_
 refine cr <| s_ Qb <| zC ?_
 refine cr <| s_ Qa <| s_ Qa <| s_ Qe <| s_ Qc <| s_ Ql ?_
 (first | refine s_ QS ?_ | refine s_ QP ?_)
 refine s_ XX <| zC ?_
 refine ci ?_ ?_
 ·intro h; exact absurd h (by simp only [List.length_map]; omega)
 intro _
 refine zC ?_
 refine cr <| s_ Qa <| s_ Qe <| s_ Qc <| s_ Ql <| s_ Qa <| s_ HL <| s_ Qb <| zC ?_
 refine cr <| s_ Qa <| s_ Qa <| s_ Qe <| s_ Qc <| s_ Ql <| s_ Qa <| s_ HK <| s_ Qe <| s_ Qc <| Qn ?_
 refine zC ?_
 refine cr <| s_ Qa <| s_ Qb <| zC ?_
 refine zR ?_
 refine rh kR ⟨rfl, ?_⟩ ?_
 ·simp [RdH, bl]
 ·exact Le.of_eq (by simp [Yv, bl])
theorem BM (u : Nat) : (UInt8.ofNat (u % 128 + 128)).toNat = u % 128 + 128 := by
 have key : ∀ i : Fin 128, (UInt8.ofNat (i.val + 128)).toNat = i.val + 128 := by decide +kernel
 exact key ⟨u % 128, Nat.mod_lt _ (by omega)⟩
theorem RQ {u : Nat} (h : u < 128) : (UInt8.ofNat u).toNat = u := by
 have key : ∀ i : Fin 128, (UInt8.ofNat i.val).toNat = i.val := by decide +kernel
 exact key ⟨u, h⟩
theorem TE (k w : Nat) (hk : k = 0 → w < 128) : ∃ c tl, Vo k w = c :: tl ∧ c.toNat % 128 = w % 128 ∧ (c.toNat < 128 ↔ w < 128) ∧ (c.toNat = 0 → w = 0) ∧ (w ≤ 1 → c.toNat ≤ 1) ∧ (w < 128 → tl = []) ∧ (128 ≤ w → tl = Vo (k - 1) (w / 128)) := by
 by_cases hw : w < 128
 ·refine ⟨_, _, Mf hw, ?_⟩
  have := RQ hw
  exact ⟨by omega, by omega, by omega, by omega, fun _ => rfl, by omega⟩
 ·cases k with
  | zero => exact absurd (hk rfl) hw
  | succ k =>
   refine ⟨_, _, GS (by omega), ?_⟩
   have := BM w
   exact ⟨by omega, by omega, by omega, by omega, by omega, fun _ => rfl⟩
theorem Tu {U j : Nat} {c : UInt8} (hU : U < 18446744073709551616) (hj : j ≤ 9) (hc : c.toNat % 128 = U / 2 ^ (7 * j) % 128) :
  bOr .u64 ((U % 2 ^ (7 * j) : Nat) : Int) (ZP .u64 (IntKind.u64.wrap ((c.toNat : Int).tmod 128)) (7 * (j : Int))) = ((U % 2 ^ (7 * (j + 1)) : Nat) : Int) := by
 have e1 : (c.toNat : Int).tmod 128 = ((c.toNat % 128 : Nat) : Int) := rfl
 have hp : 2 ^ (7 * (j + 1)) = 2 ^ (7 * j) * 128 := by rw [show 7 * (j + 1) = 7 * j + 7 by omega, Nat.pow_add]
 have hsum : U % 2 ^ (7 * (j + 1)) = U % 2 ^ (7 * j) + 2 ^ (7 * j) * (c.toNat % 128) := by rw [hp, Nat.mod_mul, hc]
 have hlt : U % 2 ^ (7 * j) < 2 ^ (7 * j) := Nat.mod_lt _ (Nat.pow_pos (by omega))
 have hle : U % 2 ^ (7 * (j + 1)) ≤ U := Nat.mod_le _ _
 generalize U % 2 ^ (7 * (j + 1)) = R at *
 generalize U % 2 ^ (7 * j) = A at *
 generalize c.toNat % 128 = x at *
 rw [e1, ZH (by omega) (by omega)]
 have e2 : ZP .u64 (x : Int) (7 * (j : Int)) = ((2 ^ (7 * j) * x : Nat) : Int) := by
  unfold ZP
  rw [show min (7 * (j : Int)).toNat IntKind.u64.bits = 7 * j by simp only [IntKind.bits]; omega]
  have : (x : Int) * 2 ^ (7 * j) = ((2 ^ (7 * j) * x : Nat) : Int) := by push_cast; rw [Int.mul_comm]
  rw [this, ZH (by omega) (by omega)]
 rw [e2]
 unfold bOr
 have e3 : (BitVec.ofInt IntKind.u64.bits (A : Int) ||| BitVec.ofInt IntKind.u64.bits ((2 ^ (7 * j) * x : Nat) : Int)).toNat = R := by
  rw [BitVec.toNat_or, BitVec.toNat_ofInt, BitVec.toNat_ofInt]
  show ((A : Int) % 18446744073709551616).toNat ||| (((2 ^ (7 * j) * x : Nat) : Int) % 18446744073709551616).toNat = _
  rw [show ((A : Int) % 18446744073709551616).toNat = A by omega, show (((2 ^ (7 * j) * x : Nat) : Int) % 18446744073709551616).toNat = 2 ^ (7 * j) * x by omega, Nat.or_comm,
   ← Nat.two_pow_add_eq_or_of_lt hlt x]
  omega
 rw [e3]
 exact ZH (by omega) (by omega)
theorem Ou (U j : Nat) : U / 2 ^ (7 * (j + 1)) = U / 2 ^ (7 * j) / 128 := by
 rw [Nat.div_div_eq_div_mul, show 7 * (j + 1) = 7 * j + 7 by omega, Nat.pow_add]
theorem Ih (u : Nat) : Vq .u64 (u : Int) 1 = ((u / 2 : Nat) : Int) := by
 unfold Vq
 rw [show min (1 : Int).toNat IntKind.u64.bits = 1 by rfl, show (2 : Int) ^ 1 = 2 by rfl, Int.fdiv_eq_ediv_of_nonneg _ (by omega)]
 omega
theorem ZI {a : Int} (h0 : -9223372036854775808 ≤ a) (h1 : a ≤ 9223372036854775807) : IntKind.i64.wrap a = a := by
 simp [IntKind.wrap, IntKind.bits, IntKind.signed]
 omega
theorem Dn {b : Nat} {l rest : List UInt8} (n : Int) (h0 : -9223372036854775808 ≤ n) (h1 : n ≤ 9223372036854775807) (hl : l = Yg n ++ rest) (hr : l.length ≤ 1000000000000) : FnH Tryz.prog 131 [pW b] (RdH b l) (fun r H => r = ei n ∧ H = RdH b rest) := by
 subst hl
 have hU := E7 h0 h1
 have hbk := BS n
 generalize hUU : JP n = U at hU hbk
 refine fe Tryz.func131 fun S0 w0 => ?_
 show Sim _ _ [(0, pW b)] (RdH b (Yg n ++ rest)) _
 refine zC ?_
 refine cr <| s_ Qb <| zC ?_
 refine cr <| s_ Qb <| zC ?_
 refine cr <| s_ Qb <| zC ?_
 apply Qm (σ := Nat × List UInt8) (ok := fun s => s.1 ≤ 9 ∧ (0 < s.1 → 1 ≤ U / 2 ^ (7 * s.1)) ∧ s.2 = Vo (9 - s.1) (U / 2 ^ (7 * s.1)) ++ rest ∧ s.2.length ≤ 1000000000000) (env := fun s => [(4, ei s.1), (3, .v (.int .u64 (U % 2 ^ (7 * s.1) : Nat))), (0, pW b)]) (heap := fun s => RdH b s.2) (μ := fun s => 10 - s.1) (s0 := (0, Yg n ++ rest))
 ·refine ⟨Nat.zero_le _, fun h => absurd h (by simp only; omega), ?_, hr⟩
  simp only [Yg, hUU]
  simp
 ·refine ⟨?_, ?_, eL⟩
  ·apply Qh; (exact zG)
   exact Le.refl _
  ·apply Qh; (exact zG)
   exact Le.of_eq (by simp [Nat.mod_one])
 ·exact kR
 rintro ⟨j, l⟩ ⟨hj, hw1, hll, hr⟩
 simp only at hj hw1 hll hr
 subst hll
 show Sim _ _ [(4, ei j), (3, .v (.int .u64 (U % 2 ^ (7 * j) : Nat))), (0, pW b)] (RdH b (Vo (9 - j) (U / 2 ^ (7 * j)) ++ rest)) _
 have hw9 : 9 - j = 0 → U / 2 ^ (7 * j) < 128 := fun h => by
  have : j = 9 := by omega
  subst this
  omega
 obtain ⟨c, tl, hc, c1, c2, c3, c4, c5, c6⟩ := TE (9 - j) (U / 2 ^ (7 * j)) hw9
 rw [hc] at hr ⊢
 refine zC ?_
 refine cr <| s_ Qa ?_
 refine QY (Gf (b := b) (l := c :: tl ++ rest) 1 (by simp) hr) (fun r H' ⟨hr1, hr2⟩ => ?_)
 subst hr1 hr2
 show Qi _ _ _ _ ((9, bl [c]) :: _) (RdH b (tl ++ rest)) _
 refine s_ (Yd (d := eb c) (hd := rfl)) ?_
 (first | refine s_ Qf ?_ | refine s_ Ql ?_)
 refine s_ Qb <| zC ?_
 refine cr <| s_ Qa <| s_ Q5 <| s_ Qa <| gT (fun hg => Qa) ?_
 refine gT (fun hg => XX (hx := u_ hg)) ?_
 refine s_ Xv <| s_ Qa <| gF (fun hg => Qa) ?_
 refine gF (fun hg => XX (hx := u_ hg)) ?_
 refine gF (fun hg => Qa (hx := u_ hg)) ?_
 refine hT (fun hg => Qa) ?_
 refine hT (fun hg => Q5 (hx := u_ hg)) ?_
 refine gF (fun hg => Tn hg) ?_
 refine s_ XC <| zC ?_
 refine ci ?_ ?_
 ·intro h
  have hcn : (c.toNat : Int) = 0 → c.toNat = 0 := by omega
  rcases h with ⟨h1, h2⟩ | ⟨h1, h2⟩
  ·have hj9 : j = 9 := by omega
   subst hj9
   have := c4 (by omega)
   omega
  ·have := c3 (by omega)
   have := hw1 (by omega)
   omega
 intro _
 refine zC ?_
 refine cr <| s_ Qa <| s_ Qa <| s_ WN <| s_ YG <| s_ Qa <| s_ Tl <| s_ J0 <| s_ Vx ?_
 rw [Tu hU hj c1]
 refine s_ Qb <| zC ?_
 refine cr <| s_ Qa <| s_ QN <| zC ?_
 refine ci ?_ ?_
 ·intro hlt
  have hlt' : U / 2 ^ (7 * j) < 128 := c2.1 (by omega)
  have hmod : U % 2 ^ (7 * (j + 1)) = U := Nat.mod_eq_of_lt (by
   have := Ou U j
   rw [Nat.div_eq_of_lt hlt'] at this
   exact (Nat.div_eq_zero_iff.1 this).resolve_left (by have : 0 < 2 ^ (7 * (j + 1)) := Nat.pow_pos (by omega); omega))
  rw [hmod, c5 hlt', List.nil_append]
  refine zC ?_
  refine cr <| s_ Qa <| s_ WN <| s_ Q5 <| zC ?_
  refine ci ?_ ?_
  ·intro hodd
   have hodd' : U % 2 = 1 := by
    rw [show (U : Int).tmod 2 = ((U % 2 : Nat) : Int) from rfl] at hodd
    omega
   unfold I8 at hbk
   rw [if_pos hodd'] at hbk
   refine zC ?_
   refine cr <| s_ Qa <| s_ ZR ?_
   rw [Ih]
   refine s_ YG ?_
   rw [ZI (a := ((U / 2 : Nat) : Int)) (by omega) (by omega)]
   refine s_ (Iq (a := ((U / 2 : Nat) : Int)) (zl)) ?_
   rw [ZI (a := 0 - ((U / 2 : Nat) : Int)) (by omega) (by omega)]
   refine s_ Yr <| s_ Qb <| zC ?_
   refine zR ?_
   refine rh kR ⟨rfl, rfl⟩ ?_
   exact Le.of_eq (by simp only [Yv, ei]; congr 2; omega)
  ·intro hodd
   have hodd' : ¬ U % 2 = 1 := by
    rw [show (U : Int).tmod 2 = ((U % 2 : Nat) : Int) from rfl] at hodd
    omega
   unfold I8 at hbk
   rw [if_neg hodd'] at hbk
   refine zC ?_
   refine cr <| s_ Qa <| s_ ZR ?_
   rw [Ih]
   refine s_ YG ?_
   rw [ZI (a := ((U / 2 : Nat) : Int)) (by omega) (by omega)]
   refine s_ Qb <| zC ?_
   refine zR ?_
   refine rh kR ⟨rfl, rfl⟩ ?_
   exact Le.of_eq (by simp only [Yv, ei]; congr 2)
 ·intro hge
  have hge' : 128 ≤ U / 2 ^ (7 * j) := by
   have : ¬ U / 2 ^ (7 * j) < 128 := fun h => hge (by have := c2.2 h; omega)
   omega
  have hdn := Ou U j
  rw [c6 hge'] at hc ⊢
  refine zC ?_
  refine cr <| s_ Qa <| s_ QQ <| s_ Qb <| zC ?_
  refine ⟨(j + 1, Vo (9 - j - 1) (U / 2 ^ (7 * j) / 128) ++ rest), ⟨?_, ?_, ?_, ?_⟩, (by simp only []; omega), ⟨?_, eL⟩, kR⟩
  ·simp only; omega
  ·simp only; rw [hdn]; omega
  ·simp only; rw [hdn, show 9 - (j + 1) = 9 - j - 1 by omega]
  ·simp only
   rw [c6 hge', List.cons_append, List.length_cons] at hr
   omega
  ·apply Qh; (exact zG)
   exact Le.refl _
end Go.Proofs.YtjbokbikkcfjjaaGreat
namespace Go.Proofs.YtjbokbikkcfjjaaGreat
open Go.Cap
attribute [local irreducible] M2 J9
theorem Wl {b : Nat} {l rest : List UInt8} (n : Int) (h0 : -9223372036854775808 ≤ n) (h1 : n ≤ 9223372036854775807) (hl : l = Yg n ++ rest) (hr : l.length ≤ 1000000000000) : FnH Tryz.prog 98 [pW b] (RdH b l) (fun r H => r = ei n ∧ H = RdH b rest) := by
 have hn := Dn (b := b) n h0 h1 hl hr
 refine Vj Tryz.func98 (by rfl) (by rfl) ?_
 intro S0 w0 hw0
 show M2 _ _ _ [(0, pW b)] (RdH b l) _
 refine UI ?_
 refine zC ?_
 apply cr
 refine EN fun b1 _ => ?_
 refine s_ Qb <| zC ?_
 refine ⟨rfl, ?_⟩
 refine Jy ?_
 refine d_s Wd ?_
 refine LE [.pointer (some ⟨b1, 0, none⟩)] ?_ rfl rfl (zl)
 refine V5 hw0 ?_
 unfold RdH
 refine zC ?_
 refine cr <| s_ Ql <| s_ Wd <| s_ Qb <| zC ?_
 refine cr <| s_ Ql <| s_ Qe <| s_ Qc <| s_ Ql <| s_ Q5 <| zC ?_
 refine ci ?_ ?_
 ·intro _
  refine zC ?_
  refine cr <| s_ Qa ?_
  refine VN (fs := [pW b]) (args := []) (cs := []) hn (Hr := [_]) (List.Perm.swap _ _ _) (fun r H' ⟨hr1, hr2⟩ => ?_)
  subst hr1 hr2
  refine QV (List.Perm.swap _ _ _) ?_
  refine s_ Qb <| zC ?_
  refine cr <| s_ Qa <| s_ Qb <| zC ?_
  refine zC ?_
  apply YW
  refine ⟨_, PZ (i := 0) rfl rfl, ?_⟩
  rintro H1 rfl
  exact ⟨_, _, _, zrs, Le.refl _, ⟨rfl, rfl⟩, (Qp.skip _ _ _ kR).le⟩
 ·intro h; exact absurd rfl h
theorem As {b : Nat} {l s rest : List UInt8} (hs : s.length ≤ 65535) (hl : l = Yg s.length ++ s ++ rest) (hr : l.length ≤ 1000000000000) : FnH Tryz.prog 132 [pW b] (RdH b l) (fun r H => r = bl s ∧ H = RdH b rest) := by
 have hn := Dn (b := b) (l := l) (rest := s ++ rest) (s.length : Nat) (by omega) (by omega) (by rw [hl, List.append_assoc]) hr
 have hlen : (s ++ rest).length ≤ 1000000000000 := by rw [hl] at hr; simp only [List.length_append] at hr ⊢; omega
 have ht := Gf (b := b) (l := s ++ rest) s.length (by simp) hlen
 rw [List.take_left' rfl, List.drop_left' rfl] at ht
 have hc := Jo false s (by omega)
 refine Vj Tryz.func132 (by rfl) (by rfl) ?_
 intro S0 w0 hw0
 show M2 _ _ _ [(0, pW b)] (RdH b l) _
 refine UI ?_
 refine zC ?_
 apply cr
 refine EN fun b1 _ => ?_
 refine s_ Qb <| zC ?_
 refine ⟨rfl, ?_⟩
 refine Jy ?_
 refine d_s Wd ?_
 refine LE [.pointer (some ⟨b1, 0, none⟩)] ?_ rfl rfl (zl)
 refine V5 hw0 ?_
 unfold RdH
 refine zC ?_
 refine cr <| s_ Ql <| s_ Qe <| s_ Qc <| s_ Ql <| s_ XE <| zC ?_
 refine ci ?_ ?_
 ·intro h; exact absurd rfl h
 intro _
 refine zC ?_
 refine cr <| s_ Ql ?_
 refine Q1 (Hr := [_]) hn (List.Perm.swap _ _ _) (fun r H' ⟨hr1, hr2⟩ => ?_)
 subst hr1 hr2
 refine QV (List.Perm.swap _ _ _) ?_
 refine s_ Qb <| zC ?_
 refine cr <| s_ Qa <| s_ QN <| s_ Qa <| gF (fun hg => Qa) ?_
 refine gF (fun hg => XX (hx := u_ hg)) ?_
 refine s_ XC <| zC ?_
 refine ci ?_ ?_
 ·intro h; exact absurd h (by omega)
 intro _
 refine zC ?_
 refine cr <| s_ Ql <| s_ Qa ?_
 refine Q1 (Hr := [_]) ht (List.Perm.swap _ _ _) (fun r H' ⟨hr1, hr2⟩ => ?_)
 subst hr1 hr2
 refine QV (List.Perm.swap _ _ _) ?_
 refine s_ (Qr (hc)) <| s_ Qb <| zC ?_
 refine zC ?_
 apply YW
 refine ⟨_, At (i := 0) rfl rfl, ?_⟩
 rintro H1 rfl
 exact ⟨_, _, _, zrs, Le.refl _, ⟨rfl, rfl⟩, (Qp.skip _ _ _ kR).le⟩
end Go.Proofs.YtjbokbikkcfjjaaGreat
namespace Go.Proofs.YtjbokbikkcfjjaaGreat
open Go.Cap
attribute [local irreducible] POp Qi SO EOp Sim FnH T.gp
def Ja (s : List UInt8) : List UInt8 := if s = [] then Yg 0 else Yg 1 ++ (Yg s.length ++ s)
theorem VY (s : List UInt8) : (Ja s).length ≤ 20 + s.length := by
 have h0 := XP 0
 have h1 := XP 1
 have h2 := XP s.length
 unfold Ja
 split
 ·omega
 ·simp only [List.length_append]; omega
theorem Im {b : Nat} {l s rest : List UInt8} (hs : s.length ≤ 60000) (hl : l = Ja s ++ rest) (hr : l.length ≤ 1000000000) : FnH Tryz.prog 99 [pW b] (RdH b l) (fun r H => r = es s ∧ H = RdH b rest) := by
 refine fe Tryz.func99 fun S0 w0 => ?_
 show Sim _ _ [(0, pW b)] (RdH b l) _
 by_cases hs0 : s = []
 ·subst hs0
  have hi := Wl (b := b) (l := l) (rest := rest) 0 (by omega) (by omega) (by rw [hl, Ja, if_pos rfl]) (by omega)
  refine zC ?_
  refine cr <| s_ Qb <| zC ?_
  refine cr <| s_ Qb <| zC ?_
  refine cr <| s_ Qa ?_
  refine QY hi (fun r H' ⟨hr1, hr2⟩ => ?_)
  subst hr1 hr2
  refine s_ Qa <| zC ?_
  apply Qm (σ := Unit) (ok := fun _ => True) (env := fun _ => [(6, ei 0), (5, ei 0), (3, .sl true (([] : List UInt8).map eb))]) (heap := fun _ => RdH b rest) (μ := fun _ => 0) (s0 := ())
  ·trivial
  ·refine ⟨?_, ?_, ?_, trivial⟩
   ·apply Qh; (exact zG)
    exact Le.refl _
   ·apply Qh; (exact zG)
    exact Le.refl _
   ·apply Qh; (exact zG)
    exact Le.slice0 _ _
  ·exact kR
  rintro ⟨⟩ _
  refine zC ?_
  refine cr <| s_ QN <| zC ?_
  refine ci ?_ ?_
  ·intro h; exact absurd h (by omega)
  intro _
  refine zC ?_
  refine cr <| s_ Qa <| s_ (K1 (l := [])) <| s_ Qb <| zC ?_
  refine zR ?_
  exact rh kR ⟨rfl, rfl⟩ (Le.refl _)
 ·have hl1 : l = Yg 1 ++ (Yg s.length ++ s ++ rest) := by rw [hl, Ja, if_neg hs0]; simp
  have hi := Wl (b := b) (l := l) (rest := Yg s.length ++ s ++ rest) 1 (by omega) (by omega) hl1 (by omega)
  have ht := As (b := b) (l := Yg s.length ++ s ++ rest) (s := s) (rest := rest) (by omega) rfl (by rw [hl1, List.length_append] at hr; omega)
  refine zC ?_
  refine cr <| s_ Qb <| zC ?_
  refine cr <| s_ Qb <| zC ?_
  refine cr <| s_ Qa ?_
  refine QY hi (fun r H' ⟨hr1, hr2⟩ => ?_)
  subst hr1 hr2
  refine s_ Qa <| zC ?_
  apply Qm (σ := Bool) (ok := fun _ => True) (env := fun k => [(6, ei (cond k 1 0)), (3, cond k (bl s) (.sl true (([] : List UInt8).map eb))), (5, ei 1), (0, pW b)]) (heap := fun k => RdH b (cond k rest (Yg s.length ++ s ++ rest))) (μ := fun k => cond k 0 1) (s0 := false)
  ·trivial
  ·refine ⟨?_, ?_, eL⟩
   ·apply Qh; (exact zG)
    exact Le.refl _
   ·apply Qh; (exact zG)
    exact Le.slice0 _ _
  ·exact kR
  rintro k _
  cases k with
  | false =>
   show Sim _ _ [(6, ei 0), (3, .sl true (([] : List UInt8).map eb)), (5, ei 1), (0, pW b)] (RdH b (Yg s.length ++ s ++ rest)) _
   refine zC ?_
   refine cr <| s_ QN <| zC ?_
   refine ci ?_ ?_
   ·intro _
    refine zC ?_
    refine cr <| s_ Qa <| s_ Qa ?_
    refine QY ht (fun r H' ⟨hr1, hr2⟩ => ?_)
    subst hr1 hr2
    refine s_ (CU (xs := []) (ys := s.map eb) (f := false)) <| s_ Qb <| zC ?_
    refine cr <| s_ QQ <| s_ Qa <| zC ?_
    refine ⟨true, trivial, (by decide), ⟨?_, ?_, eL⟩, kR⟩
    ·apply Qh; (exact zG)
     exact Le.refl _
    ·apply Qh; (exact zG)
     exact Le.refl _
   ·intro h; exact absurd h (by omega)
  | true =>
   show Sim _ _ [(6, ei 1), (3, bl s), (5, ei 1), (0, pW b)] (RdH b rest) _
   refine zC ?_
   refine cr <| s_ QN <| zC ?_
   refine ci ?_ ?_
   ·intro h; exact absurd h (by omega)
   intro _
   refine zC ?_
   refine cr <| s_ Qa <| s_ K1 <| s_ Qb <| zC ?_
   refine zR ?_
   exact rh kR ⟨rfl, rfl⟩ (Le.refl _)
end Go.Proofs.YtjbokbikkcfjjaaGreat
namespace Go.Cap
section
variable {P : Program} {t : Env} {H : Qd} {dst : Option Tmp} {tp : TypeId} {pos : String} {aft : Array Edge} {g : Option (Nat × Bool)} {ty : TypeId} {x l' h' m' : Operand} {dx : T} {f : Bool} {xs ys : List T} {k k' k2 : IntKind} {i j m : Int} {d : T} {by_ kk : Nat}
theorem Kn (he : (xs.drop i.toNat).take (j.toNat - i.toNat) = ys) [hz : QB P ty d by_] (hx : t.ev x = dx := by exact zl) (hxl : Le dx (.sl f xs) := by exact zL) (hl : t.ev l' = .v (.int k i) := by exact zl) (hh : t.ev h' = .v (.int k' j) := by exact zl) (hm : t.ev m' = .v (.int k2 j) := by exact zl) (h0 : 0 ≤ i := by exact zo) (h1 : i ≤ j := by exact zo) (h2 : j ≤ xs.length := by exact zo) (hk : ∀ x ∈ xs, x.cells.length = d.cells.length := by exact zk) :
  POp P t H ⟨dst, .slice ty x (some l') (some h') (some m'), tp, pos, aft, g⟩ (.sl true ys) := he ▸ MT hx hxl hl hh hm h0 h1 h2 hk
theorem WM (he : xs.drop i.toNat = ys) [hz : QB P ty d by_] (hx : t.ev x = dx := by exact zl) (hxl : Le dx (.sl false xs) := by exact zL) (hl : t.ev l' = .v (.int k i) := by exact zl) (h0 : 0 ≤ i := by exact zo) (h2 : i ≤ xs.length := by exact zo) (hk : ∀ x ∈ xs, x.cells.length = d.cells.length := by exact zk) :
  POp P t H ⟨dst, .slice ty x (some l') none none, tp, pos, aft, g⟩ (.sl false ys) := he ▸ UM hx hxl hl h0 h2 hk
theorem Rb (he : xs.take i.toNat = ys) [hz : QB P ty d by_] (hx : t.ev x = dx := by exact zl) (hxl : Le dx (.sl false xs) := by exact zL) (hl : t.ev l' = .v (.int k i) := by exact zl) (h0 : 0 ≤ i := by exact zo) (h2 : i ≤ xs.length := by exact zo) (hk : ∀ x ∈ xs, x.cells.length = d.cells.length := by exact zk) :
  POp P t H ⟨dst, .slice ty x none (some l') none, tp, pos, aft, g⟩ (.sl false ys) := he ▸ UN hx hxl hl h0 h2 hk
theorem Ko (he : (xs.drop i.toNat).take (j.toNat - i.toNat) = ys) [hz : QB P ty d by_] (hx : t.ev x = dx := by exact zl) (hxl : Le dx (.sl false xs) := by exact zL) (hl : t.ev l' = .v (.int k i) := by exact zl) (hh : t.ev h' = .v (.int k' j) := by exact zl) (h0 : 0 ≤ i := by exact zo) (h1 : i ≤ j := by exact zo) (h2 : j ≤ xs.length := by exact zo) (hk : ∀ x ∈ xs, x.cells.length = d.cells.length := by exact zk) :
  POp P t H ⟨dst, .slice ty x (some l') (some h') none, tp, pos, aft, g⟩ (.sl false ys) := he ▸ Eb hx hxl hl hh h0 h1 h2 hk
end
end Go.Cap
namespace Go.Proofs.YtjbokbikkcfjjaaGreat
open Go.Cap
attribute [local irreducible] POp Qi SO EOp Sim FnH T.gp
def bt (l : List UInt8) : T := .sl true (l.map eb)
def pcs (s : List UInt8) : List (List UInt8) := if s = [] then [] else [s]
theorem ND (s : List UInt8) (hs : s.length ≤ 60000) : ItC Tryz.prog 177 [.adr (.sl false (s.map eb)), .adr (ei 60000)] (fun p : List UInt8 => [bt p]) (fun xs => xs = pcs s) (fun pre => s ≠ [] ∧ pre = [s]) := by
 refine G4 Tryz.func177 (by rfl) (by rfl) (by rfl) ?_
 intro c l' r I Ix Hx S w hlen _ _ hK h0 hY
 show Sim _ _ [(Tryz.f177.ntmps, .v undef), (0, .v (.func (.yield l') #[] #[])), (1, .adr (.sl false (s.map eb))), (2, .adr (ei 60000))] _ _
 refine zC ?_
 refine cr <| s_ Qb <| zC ?_
 apply Qm (σ := Bool × Qd) (ok := fun st => (st.1 = true → s ≠ []) ∧ I (cond st.1 [s] []) st.2) (env := fun st => [(4, ei (cond st.1 60000 0)), (Tryz.f177.ntmps, .v undef), (0, .v (.func (.yield l') #[] #[])), (1, .adr (.sl false (s.map eb))), (2, .adr (ei 60000))])
  (heap := fun st => st.2) (μ := fun st => cond st.1 0 1) (s0 := (false, Hx))
 ·exact ⟨by simp, h0⟩
 ·exact eL
 ·exact kR
 rintro ⟨k, H⟩ ⟨hk, hI⟩
 simp only at hk hI
 cases k with
 | false =>
  show Sim _ _ [(4, ei 0), (Tryz.f177.ntmps, .v undef), (0, .v (.func (.yield l') #[] #[])), (1, .adr (.sl false (s.map eb))), (2, .adr (ei 60000))] H _
  refine zC ?_
  refine cr <| s_ Qa <| s_ Qf ?_
  (first | refine s_ QS ?_ | refine s_ QP ?_)
  refine s_ QN <| zC ?_
  refine ci ?_ ?_
  ·intro hlt
   have hne : s ≠ [] := by rintro rfl; simp at hlt
   have hyc := hY [] s H hI ⟨hne, rfl⟩
   refine zC ?_
   refine ca [0, 1, 2, 3, 4, 5, 6] [] <| a_ (fun _ => Qf) <| a_ (fun _ => Qf) <| a_ (fun _ => Qa) <| a_ (fun _ => HK) ?_
   (first | refine a_ (fun _ => QS) ?_ | refine a_ (fun _ => QP) ?_)
   refine a_ (fun _ => WO) <| a_ (fun _ => Qb) ?_
   apply an
   refine zC ?_
   have e1 : 0 + min (60000 : Int) ((((s.map eb).drop (0 : Int).toNat).length : Nat) : Int) = ((s.length : Nat) : Int) := by simp; omega
   refine zC ?_
   refine cr <| s_ Qa <| s_ Qf <| s_ Qa <| s_ Qa <| s_ Qa <| s_ QQ <| s_ Qa <| s_ Qa <| s_ QQ ?_
   rw [e1]
   refine s_ (Kn (xs := s.map eb) (ys := s.map eb) (i := 0) (j := ((s.length : Nat) : Int)) (by simp [List.take_of_length_le])) ?_
   refine Sr (Hr := []) hyc (by simp) (hlen _) hK (fun H' hI' => ?_) (fun H' hI' => ?_)
   ·simp only [if_true] at hI'
    refine s_ Yb <| zC ?_
    refine ci ?_ ?_
    ·intro h; exact absurd trivial h
    intro _
    refine zC ?_
    refine cr <| s_ Qa <| s_ Qf <| s_ QQ <| s_ Qb <| zC ?_
    refine ⟨(true, H'), ⟨fun _ => hne, hI'⟩, (by show 0 < 1; omega), ⟨?_, eL⟩, by rw [List.append_nil]; exact kR⟩
    apply Qh; (exact zG)
    exact Le.refl _
   ·simp only [Bool.false_eq_true, if_false] at hI'
    refine s_ Yb <| zC ?_
    refine ci ?_ ?_
    ·intro _
     refine zC ?_
     apply YW
     simp only [YS, Ze, Z5]
     rw [List.append_nil]
     exact IS ⟨hne, rfl⟩ hI'
    ·intro h; exact absurd (fun h => h) h
  ·intro hge
   have hs0 : s = [] := by
    have : s.length = 0 := by simp only [List.length_map] at hge; omega
    exact List.length_eq_zero_iff.1 this
   refine zC ?_
   exact Mj (xs := []) (by rw [pcs, if_pos hs0]) hI
 | true =>
  show Sim _ _ [(4, ei 60000), (Tryz.f177.ntmps, .v undef), (0, .v (.func (.yield l') #[] #[])), (1, .adr (.sl false (s.map eb))), (2, .adr (ei 60000))] H _
  refine zC ?_
  refine cr <| s_ Qa <| s_ Qf ?_
  (first | refine s_ QS ?_ | refine s_ QP ?_)
  refine s_ QN <| zC ?_
  refine ci ?_ ?_
  ·intro h; exact absurd h (by simp only [List.length_map]; omega)
  intro _
  refine zC ?_
  exact Mj (xs := [s]) (by rw [pcs, if_neg (hk rfl)]) hI
theorem NE (s : List UInt8) : FnP Tryz.prog 172 [.sl false (s.map eb), ei 60000] (fun r => r = .clo 177 [] [.adr (.sl false (s.map eb)), .adr (ei 60000)]) := by
 refine fe Tryz.func172 fun S0 w0 => ?_
 show Sim _ _ [(0, T.sl false (s.map eb)), (1, ei 60000)] _ _
 refine zC ?_
 apply cr
 refine EN fun b2 _ => ?_
 refine EN fun b3 _ => ?_
 refine s_ Qb <| zC ?_
 refine cr <| s_ Ql <| s_ QN <| zC ?_
 refine ci ?_ ?_
 ·intro h; exact absurd h (by omega)
 intro _
 refine zC ?_
 refine cr <| s_ Wd <| s_ Qb <| zC ?_
 refine ZJ (G := [_, _]) (H1 := []) [(4, .clo 177 [] [.adr (.sl false (s.map eb)), .adr (ei 60000)])] (by simp; rfl) ⟨?_, trivial⟩ ?_
 ·refine (show Env.get _ _ = _ from gZ) ▸ QJ.clo Qk.nil (Qk.cons (QJ.ptr (List.mem_cons_of_mem _ List.mem_cons_self) (.inl rfl) ?_ (by simp [T.cells]) (by simp [T.cells])) (Qk.cons (QJ.ptr List.mem_cons_self (.inl rfl) ?_ (by simp [T.cells, ei, Value.cells]) (by simp [T.cells, ei, Value.cells])) Qk.nil))
  ·exact Qk.le (LeL.refl _)
  ·exact Qk.le (LeL.refl _)
 ·refine zE ?_
  exact Le.refl _
def tBB : TypeId := 34
def OBB (l : List (List UInt8)) (v : Value) (Hs : Qd) : Prop := OSl tBB 1 (l.map bt) v Hs
theorem bt1 (l : List (List UInt8)) : ∀ x ∈ l.map bt, x.cells.length = 1 := zk
theorem SC (l : List (List UInt8)) : ∀ x ∈ l.map bt, x.solid := JX _ (fun _ => .inl rfl) _
theorem OBB.len {l : List (List UInt8)} {v : Value} {Hs : Qd} (h : OBB l v Hs) : ∃ p c, v = .slice p (l.map bt).length c := OSl.len h
theorem BU (s : List UInt8) (hs : s.length ≤ 60000) : FnH Tryz.prog 176 [.v (.slice none 0 0), .clo 177 [] [.adr (.sl false (s.map eb)), .adr (ei 60000)]] [] (fun r H => ∃ v, r = .v v ∧ OBB (pcs s) v H) := by
 refine fe Tryz.func176 fun S0 w0 => ?_
 show Sim _ _ [(0, T.v (.slice none 0 0)), (1, T.clo 177 [] [.adr (.sl false (s.map eb)), .adr (ei 60000)])] _ _
 refine zC ?_
 apply cr
 refine EN fun b2 _ => ?_
 refine s_ Qb <| zC ?_
 refine cr <| s_ Qa <| zC ?_
 refine M9 (ND s hs) (by ((repeat (apply eS; rfl)); exact eZ)) (by rfl) rfl (fun (pre : List (List UInt8)) (H : Qd) => pre.length ≤ 1 ∧ ∃ v Hs, OBB pre v Hs ∧ H = (b2, ⟨117, [.v v], 1⟩) :: (Hs ++ []))
  (fun _ _ => False) .ret .ret (.inl ⟨rfl, rfl⟩) (fun _ => rfl) (by rfl) ⟨by simp, _, [], YE, rfl⟩ ?_ ?_ ?_
 ·rintro pre x H1 ⟨hpl, v, Hs, ho, rfl⟩ ⟨hne, hsp⟩ l' S1 w1
  have hpl2 : pre.length = 0 := by have := congrArg List.length hsp; simp at this; simp [this]
  obtain ⟨p, c, rfl⟩ := ho.len
  simp only [LW]
  refine zC ?_
  refine cr <| s_ Qb <| zC ?_
  refine ⟨rfl, fun S2 w2 mk => ?_⟩
  refine zC ?_
  refine cr <| s_ Ql <| s_ Qa <| s_ XS ?_
  refine Ot (ho := ho) (A := [_]) (B := []) (ys := [bt x]) (f := true) (bt1 _) (fun v' Hs' ho' => ?_)
  obtain ⟨p', c', rfl⟩ := ho'.len
  refine Qn ?_
  refine zC ?_
  refine ⟨_, kR, .inl ⟨rfl, by rw [List.length_append]; simp only [List.length_singleton]; omega, _, Hs', by unfold OBB; rw [List.map_append]; exact ho', rfl⟩⟩
 ·rintro xs H' rfl ⟨hpl, v, Hs, ho, rfl⟩
  obtain ⟨p, c, rfl⟩ := ho.len
  refine zC ?_
  refine zC ?_
  refine cr <| s_ Ql <| s_ Qb <| zC ?_
  refine zR ?_
  refine rh (.skip _ _ _ kR) ⟨_, rfl, by rw [List.append_nil]; exact ho⟩ (Le.refl _)
 ·rintro pre H' _ h
  exact h.elim
theorem RN (s : List UInt8) (hs : s.length ≤ 60000) : FnP Tryz.prog 171 [.clo 177 [] [.adr (.sl false (s.map eb)), .adr (ei 60000)]] (fun r => r = .sl false ((pcs s).map bt)) := by
 refine FnH.give (Φ := fun r H => ∃ v, r = .v v ∧ OBB (pcs s) v H) ?_ (by rintro r H ⟨v, rfl, ho⟩; exact OSl.lend ho (fun _ h => h) (bt1 _) (SC _))
 refine fe Tryz.func171 fun S0 w0 => ?_
 show Sim _ _ [(0, T.clo 177 [] [.adr (.sl false (s.map eb)), .adr (ei 60000)])] _ _
 refine zC ?_
 refine cr <| s_ Qb <| zC ?_
 refine cr <| s_ Qa ?_
 refine QY (BU s hs) (fun r H' ⟨v, hr, ho⟩ => ?_)
 subst hr
 refine s_ Qb <| zC ?_
 refine zR ?_
 exact rh kR ⟨_, rfl, ho⟩ (Le.refl _)
theorem Ib (f : Bool) (b s : List UInt8) (hs : s.length ≤ 60000) (hb : b.length ≤ 1000000000) : FnP Tryz.prog 165 [.sl f (b.map eb), es s] (fun r => r = bl (b ++ Ja s)) := by
 have hc := NE s
 have hcl := RN s hs
 have hi := Mk f b ((pcs s).length : Nat) (by unfold pcs; split <;> simp) (by unfold pcs; split <;> simp) (by omega)
 refine fe Tryz.func165 fun S0 w0 => ?_
 show Sim _ _ [(0, T.sl f (b.map eb)), (1, es s)] _ _
 refine zC ?_
 refine cr <| s_ Qb <| zC ?_
 refine cr <| s_ Qa <| s_ SW <| s_ (Qr (hc)) <| s_ (Qr (hcl)) <| s_ Qb <| zC ?_
 refine zC ?_
 refine cr <| s_ Qa <| s_ Qa ?_
 (first | refine s_ QS ?_ | refine s_ QP ?_)
 rw [List.length_map]
 refine s_ (Qr (hi)) <| s_ Qb <| zC ?_
 refine cr <| s_ Qa ?_
 (first | refine s_ QS ?_ | refine s_ QP ?_)
 refine s_ Qa <| zC ?_
 by_cases hs0 : s = []
 ·subst hs0
  apply Qm (σ := Unit) (ok := fun _ => True) (env := fun _ => [(18, ei 0), (17, ei 0), (0, bl (b ++ Yg 0))]) (heap := fun _ => []) (μ := fun _ => 0) (s0 := ())
  ·trivial
  ·exact eL
  ·exact kR
  rintro ⟨⟩ _
  refine zC ?_
  refine cr <| s_ QN <| zC ?_
  refine ci ?_ ?_
  ·intro h; exact absurd h (by omega)
  intro _
  refine zC ?_
  refine cr <| s_ Qa <| s_ Qb <| zC ?_
  refine zE ?_
  rw [Ja, if_pos rfl]
  exact Le.refl _
 ·have hi1 := XP 1
  have ht := OC false true (b ++ Yg 1) s (by simp only [List.length_append]; omega) (by omega)
  have hp : pcs s = [s] := if_neg hs0
  rw [hp]
  apply Qm (σ := Bool) (ok := fun _ => True) (env := fun k => [(18, ei (cond k 1 0)), (0, bl (b ++ Yg 1 ++ cond k (Yg s.length ++ s) [])), (17, ei 1), (16, .sl false [bt s])]) (heap := fun _ => []) (μ := fun k => cond k 0 1) (s0 := false)
  ·trivial
  ·refine ⟨?_, ?_, eL⟩
   ·apply Qh; (exact zG)
    exact Le.refl _
   ·apply Qh; (exact zG)
    exact Le.of_eq (by simp)
  ·exact kR
  rintro k _
  cases k with
  | false =>
   show Sim _ _ [(18, ei 0), (0, bl (b ++ Yg 1 ++ [])), (17, ei 1), (16, .sl false [bt s])] _ _
   rw [List.append_nil]
   refine zC ?_
   refine cr <| s_ QN <| zC ?_
   refine ci ?_ ?_
   ·intro _
    refine zC ?_
    apply cr
    (first | refine s_ (Q4 hix) ?_ | refine s_ (Q4 hix2) ?_ | refine s_ Yd ?_ | refine s_ Ys ?_)
    (first | refine s_ Qf ?_ | refine s_ Ql ?_)
    refine s_ Qb <| zC ?_
    refine cr <| s_ Qa <| s_ Qa <| s_ (Qr (ht)) <| s_ Qb <| zC ?_
    refine cr <| s_ QQ <| s_ Qa <| zC ?_
    refine ⟨true, trivial, (by show 0 < 1; omega), ⟨?_, ?_, eL⟩, kR⟩
    ·apply Qh; (exact zG)
     exact Le.refl _
    ·apply Qh; (exact zG)
     exact Le.of_eq (by simp)
   ·intro h; exact absurd h (by omega)
  | true =>
   show Sim _ _ [(18, ei 1), (0, bl (b ++ Yg 1 ++ (Yg s.length ++ s))), (17, ei 1), (16, .sl false [bt s])] _ _
   refine zC ?_
   refine cr <| s_ QN <| zC ?_
   refine ci ?_ ?_
   ·intro h; exact absurd h (by omega)
   intro _
   refine zC ?_
   refine cr <| s_ Qa <| s_ Qb <| zC ?_
   refine zE ?_
   rw [Ja, if_neg hs0]
   exact Le.of_eq (by simp [Yv])
end Go.Proofs.YtjbokbikkcfjjaaGreat
