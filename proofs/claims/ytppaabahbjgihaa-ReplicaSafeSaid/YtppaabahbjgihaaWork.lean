/-
  replica: a worker: its entries' own row, what it sends.
-/
import Derived.Test.YtppaabahbjgihaaNode
import Derived.Test.YtppaabahbjgihaaOs
set_option maxRecDepth 4000
namespace Go.Proofs.Ytppaabahbjgihaa
open Go.Cap
set_option linter.unusedSimpArgs false
set_option linter.unusedVariables false
attribute [local irreducible] POp SimFrom DrawFrom EOp Sim FnH T.gp
def tE : TypeId := 37
def tM : TypeId := 40
def tW : TypeId := 76
def OE (l : List En) (v : Value) (Hs : Heap) : Prop := OSl tE 3 (l.map een) v Hs
def OM (l : List Ms) (v : Value) (Hs : Heap) : Prop := OSl tM 11 (l.map ms) v Hs
theorem een3 (l : List En) : ∀ x ∈ l.map een, x.cells.length = 3 := by (repeat (first | exact lenOk_nil | (apply lenOk_map; intro _; rfl) | apply lenOk_append | apply lenOk_take | apply lenOk_drop | (apply lenOk_cons; rfl)))
theorem een_ok (l : List En) : ∀ x ∈ l.map een, x.solid := solid_map _ (fun _ => .inr ⟨_, rfl⟩) _
theorem ms11 (l : List Ms) : ∀ x ∈ l.map ms, x.cells.length = 11 := by (repeat (first | exact lenOk_nil | (apply lenOk_map; intro _; rfl) | apply lenOk_append | apply lenOk_take | apply lenOk_drop | (apply lenOk_cons; rfl)))
theorem ms_ok (l : List Ms) : ∀ x ∈ l.map ms, x.solid := solid_map _ (fun _ => .inr ⟨_, rfl⟩) _
theorem een_plain : ∀ (l : List En), ((l.map een).flatMap T.cells).all T.isV = true
  | [] => rfl
  | e :: l => by simp only [List.map_cons, List.flatMap_cons, List.all_append, een_plain l, Bool.and_true]; rfl
theorem OE.plain {l : List En} {v : Value} {Hs : Heap} (h : OE l v Hs) : ∀ p ∈ Hs, p.2.cells.all T.isV = true := by
  rcases h with ⟨_, _, rfl⟩ | ⟨b, c, _, _, rfl⟩
  · simp
  · intro p hp
    rw [List.mem_singleton.1 hp]
    exact een_plain l
theorem OE.len {l : List En} {v : Value} {Hs : Heap} (h : OE l v Hs) : ∃ p c, v = .slice p (l.map een).length c := OSl.len h
theorem OM.len {l : List Ms} {v : Value} {Hs : Heap} (h : OM l v Hs) : ∃ p c, v = .slice p (l.map ms).length c := OSl.len h
theorem OE.cap {l : List En} {p : Option Addr} {n c : Nat} {Hs : Heap} (h : OE l (.slice p n c) Hs) : n ≤ c := OSl.cap h
theorem OE.lend {l : List En} {v : Value} {Hs G : Heap} (h : OE l v Hs) (hG : ∀ p ∈ Hs, p ∈ G) : Lends G (.v v) (.sl false (l.map een)) := OSl.lend h hG (een3 l) (een_ok l)
theorem OM.lend {l : List Ms} {v : Value} {Hs G : Heap} (h : OM l v Hs) (hG : ∀ p ∈ Hs, p ∈ G) : Lends G (.v v) (mss l) := OSl.lend h hG (ms11 l) (ms_ok l)
theorem clone_fn (f : Bool) (l : List En) (hl : l.length ≤ 1000000000) : FnH Try.prog 49 [.sl f (l.map een)] [] (fun r H => ∃ v, r = .v v ∧ OE l v H) := by
  refine fn_enter Try.func49 (by rfl) (by rfl) ?_
  intro S0 w0
  show Sim _ _ [(0, T.sl f (l.map een))] _ _
  (repeat (first | apply cn | apply cq | apply cb | apply ck | apply cl | apply cx))
  apply cr
  refine s_ p_as ?_
  (repeat (first | apply cn | apply cq | apply cb | apply ck | apply cl | apply cx))
  apply cr
  refine s_ p_mv ?_
  refine from_name 3 fun p c h1 _ => ?_
  refine s_ p_en ?_
  (repeat (first | apply cn | apply cq | apply cb | apply ck | apply cl | apply cx))
  refine ci ?_ ?_
  · intro hp
    have := h1 hp
    have : l = [] := by simpa using this
    subst this
    (repeat (first | apply cn | apply cq | apply cb | apply ck | apply cl | apply cx))
    apply cr
    refine s_ p_as ?_
    (repeat (first | apply cn | apply cq | apply cb | apply ck | apply cl | apply cx))
    (apply sim_ret; (try simp only [blockΨ_ret, thenΨ_ret, loopL_ret, cutΨ_ret, cutE_ret]))
    exact rh kR ⟨_, rfl, osl_nil⟩ (Le.refl _)
  · intro hp
    (repeat (first | apply cn | apply cq | apply cb | apply ck | apply cl | apply cx))
    apply cr
    refine s_ p_bs ?_
    refine from_name 5 fun q c' _ h2 => ?_
    have := h2 rfl
    subst this
    cases l with
    | nil =>
      refine s_ p_mv ?_
      refine s_ (p_ap0 (hxl := Le.slice0 q true)) ?_
      refine from_name 7 fun q c' _ h2 => ?_
      have := h2 rfl
      subst this
      refine s_ p_as ?_
      (repeat (first | apply cn | apply cq | apply cb | apply ck | apply cl | apply cx))
      (apply sim_ret; (try simp only [blockΨ_ret, thenΨ_ret, loopL_ret, cutΨ_ret, cutE_ret]))
      exact rh kR ⟨_, rfl, osl_nil'⟩ (Le.refl _)
    | cons e l =>
      refine s_ p_mv ?_
      refine e_os (ho := (osl_nil' : OSl tE 3 [] _ [])) (A := []) (B := []) (fun _ h => by cases h) (fun v' Hs' ho => ?_)
      refine s_ p_as ?_
      (repeat (first | apply cn | apply cq | apply cb | apply ck | apply cl | apply cx))
      (apply sim_ret; (try simp only [blockΨ_ret, thenΨ_ret, loopL_ret, cutΨ_ret, cutE_ret]))
      exact rh kR ⟨_, rfl, by simpa [OE] using ho⟩ (Le.refl _)
/-- A part of an own row, as its value. -/
def SlE (G : Heap) (l : List En) (v : Value) : Prop := ∃ p c, v = .slice p l.length c ∧ l.length ≤ c ∧ Lends G (.v v) (.sl false (l.map een))
theorem OE.sle {l : List En} {v : Value} {Hs G : Heap} (h : OE l v Hs) (hG : ∀ p ∈ Hs, p ∈ G) : SlE G l v := by
  obtain ⟨p, c, rfl⟩ := h.len
  exact ⟨p, c, by simp, by simpa using h.cap, h.lend hG⟩
theorem SlE.sub {G : Heap} {l : List En} {p : Option Addr} {n c : Nat} (h : SlE G l (.slice p n c)) {lo hi : Nat} (h1 : lo ≤ hi) (h2 : hi ≤ l.length) : SlE G ((l.drop lo).take (hi - lo)) (subV 3 p c lo (hi - lo)) := by
  obtain ⟨p', c', e, hc, hl⟩ := h
  cases e
  have h3 := Lends.sub (P := Try.prog) (ty := 26) hl (by (repeat (first | exact lenOk_nil | (apply lenOk_map; intro _; rfl) | apply lenOk_append | apply lenOk_take | apply lenOk_drop | (apply lenOk_cons; rfl)))) h1 (by simpa using h2) (by simp) hc
  have hlen : ((l.drop lo).take (hi - lo)).length = hi - lo := by simp; omega
  exact ⟨p.map fun a => if c = lo then a else a.add (lo * 3), c - lo, by rw [hlen]; rfl, by rw [hlen]; omega, by rw [List.map_take, List.map_drop]; exact h3⟩
/-- A function that takes all blocks, and answers with data. -/
abbrev FnP' (P : Program) (f : FuncId) (args : List T) (H : Heap) (d : T) : Prop := FnH P f args H fun r H' => H' = [] ∧ r = d
/-- A worker's cells, and what is its own. -/
def wkC (n : Nd) (vl vo : Value) : List T := nodeC n (.v vl) ++ [.v vo]
def WkH (b : Nat) (n : Nd) (out : List Ms) (H : Heap) : Prop := ∃ vl vo Hl Ho, OE n.log vl Hl ∧ OM out vo Ho ∧ H = (b, ⟨tW, wkC n vl vo, 23⟩) :: (Hl ++ (Ho ++ []))
def pW (b : Nat) : T := .v (.pointer (some ⟨b, 0, none⟩))
theorem OE.of {l : List En} : ∀ (r : T) (H : Heap), (∃ v, r = .v v ∧ OE l v H) → r.plain = true ∧ ∀ p ∈ H, p.2.cells.all T.isV = true := by
  rintro r H ⟨v, rfl, h⟩
  exact ⟨rfl, h.plain⟩
theorem work_fn (n : Nd) (hl : n.log.length ≤ 1000000000) : FnH Try.prog 31 [nd n] [] (fun r H => ∃ b, r = pW b ∧ WkH b n [] H) := by
  have hc := clone_fn false n.log hl
  refine fn_enter Try.func31 (by rfl) (by rfl) ?_
  intro S0 w0
  show Sim _ _ [(0, T.agg (nodeC n (.sl false (n.log.map een))))] _ _
  (repeat (first | apply cn | apply cq | apply cb | apply ck | apply cl | apply cx))
  apply cr
  refine e_bx fun b1 _ => ?_
  refine s_ p_as ?_
  (repeat (first | apply cn | apply cq | apply cb | apply ck | apply cl | apply cx))
  apply cr
  refine s_ p_fr ?_
  refine s_ p_lo ?_
  refine e_cLH (G := []) hc (LendsL.le (LeL.refl _)) ⟨_, List.Perm.refl _⟩ OE.of ?_
  rintro r H1 ⟨v, rfl, ho⟩
  obtain ⟨p, c, rfl⟩ := ho.len
  refine from_perm List.perm_middle ?_
  refine s_ p_fr ?_
  refine e_st ?_
  (repeat (first | apply cn | apply cq | apply cb | apply ck | apply cl | apply cx))
  apply cr
  refine s_ p_loa ?_
  refine s_ (p_bd 23 [_, _, _, _, _, _, _, _, _, _, _, _, _, _, _, _, _, _, _, _, _, _, _]) ?_
  refine e_bx fun b9 _ => ?_
  refine s_ p_as ?_
  (repeat (first | apply cn | apply cq | apply cb | apply ck | apply cl | apply cx))
  (apply sim_ret; (try simp only [blockΨ_ret, thenΨ_ret, loopL_ret, cutΨ_ret, cutE_ret]))
  exact rh (.keep _ _ _ _ _ (BlkLe.refl _) (.skip _ _ _ kR)) ⟨b9, rfl, _, _, H1, [], ho, osl_nil, rfl⟩ (Le.refl _)
theorem node_lends {G : Heap} (n : Nd) {x y : T} (h : Lends G x y) : LendsL G (nodeC n x) (nodeC n y) := by
  unfold nodeC
  repeat (first | exact LendsL.nil | (refine LendsL.cons (Lends.le (Le.refl _)) ?_) | (refine LendsL.cons h ?_))
/-- A worker, given up, is data. -/
def wkD (n : Nd) (out : List Ms) : List T := nodeC n (eens n.log) ++ [mss out]
theorem wk_lends {G Hl Ho : Heap} {n : Nd} {out : List Ms} {vl vo : Value} (h1 : OE n.log vl Hl) (h2 : OM out vo Ho) (hl : ∀ p ∈ Hl, p ∈ G) (ho : ∀ p ∈ Ho, p ∈ G) : LendsL G (wkC n vl vo) (wkD n out) :=
  LendsL.append (node_lends n (h1.lend hl)) (LendsL.cons (h2.lend ho) LendsL.nil)
theorem wk_ptr {G Hl Ho : Heap} {b : Nat} {n : Nd} {out : List Ms} {vl vo : Value} (h1 : OE n.log vl Hl) (h2 : OM out vo Ho) (hl : ∀ p ∈ Hl, p ∈ G) (ho : ∀ p ∈ Ho, p ∈ G) (hb : (b, (⟨tW, wkC n vl vo, 23⟩ : Blk)) ∈ G) : Lends G (pW b) (.adr (.agg (wkD n out))) :=
  Lends.ptr hb (.inr ⟨_, rfl⟩) (wk_lends h1 h2 hl ho) (by simp [T.cells, wkD]) (by simp [T.cells, wkD, wkC, nodeC])
theorem nd_ptr {G Hl : Heap} {b : Nat} {n : Nd} {vl vo : Value} (h1 : OE n.log vl Hl) (hl : ∀ p ∈ Hl, p ∈ G) (hb : (b, (⟨tW, wkC n vl vo, 23⟩ : Blk)) ∈ G) : Lends G (pW b) (.adr (nd n)) :=
  Lends.ptr hb (.inr ⟨_, rfl⟩) (node_lends n (h1.lend hl)) (by simp [nd, T.cells, nodeC]) (by simp [nd, T.cells, wkC, nodeC])
theorem done_fn {b : Nat} {n : Nd} {out : List Ms} {H : Heap} (hl : n.log.length ≤ 1000000000) (hw : WkH b n out H) : FnP' Try.prog 34 [pW b] H (.tup [nd n, mss out]) := by
  obtain ⟨vl, vo, Hl, Ho, h1, h2, rfl⟩ := hw
  have hc := clone_fn false n.log hl
  obtain ⟨p, c, rfl⟩ := h1.len
  obtain ⟨q, d, rfl⟩ := h2.len
  refine fn_enter Try.func34 (by rfl) (by rfl) ?_
  intro S0 w0
  show Sim _ _ [(0, pW b)] _ _
  (repeat (first | apply cn | apply cq | apply cb | apply ck | apply cl | apply cx))
  apply cr
  refine e_al fun b2 _ => ?_
  refine s_ p_as ?_
  (repeat (first | apply cn | apply cq | apply cb | apply ck | apply cl | apply cx))
  apply cr
  refine s_ p_mv ?_
  refine s_ p_mv ?_
  refine s_ p_nc ?_
  refine s_ p_fr ?_
  refine s_ p_fr ?_
  refine s_ p_lo ?_
  refine e_cLA hc (LendsL.cons (h1.lend (by intro p hp; simp [hp])) LendsL.nil) OE.of ?_
  rintro r H1 ⟨v, rfl, ho⟩
  obtain ⟨p', c', rfl⟩ := ho.len
  refine from_perm (List.perm_middle.trans (.cons _ List.perm_middle)) ?_
  refine s_ p_nc ?_
  refine s_ p_fr ?_
  refine s_ p_fr ?_
  refine e_st ?_
  (repeat (first | apply cn | apply cq | apply cb | apply ck | apply cl | apply cx))
  (repeat (first | apply cn | apply cq | apply cb | apply ck | apply cl | apply cx))
  refine lendRest 0 (.adr (.agg (wkD n out))) (wk_ptr ho h2 (by intro p hp; simp [hp]) (by intro p hp; simp [hp]) List.mem_cons_self) ?_
  (repeat (first | apply cn | apply cq | apply cb | apply ck | apply cl | apply cx))
  refine ca [0, 1, 2, 3, 4, 5, 6, 7, 8, 9] [8] ?_
  refine a_ (fun _ => p_mv) ?_
  refine a_ (fun _ => p_nc) ?_
  refine a_ (fun _ => p_faA) ?_
  refine a_ (fun _ => p_la) ?_
  refine a_ (fun _ => p_mv) ?_
  refine a_ (fun _ => p_nc) ?_
  refine a_ (fun _ => p_fa) ?_
  refine a_ (fun _ => p_ld) ?_
  refine a_st ?_
  refine a_ (fun _ => p_as) ?_
  apply an
  (repeat (first | apply cn | apply cq | apply cb | apply ck | apply cl | apply cx))
  (apply sim_ret; (try simp only [blockΨ_ret, thenΨ_ret, loopL_ret, cutΨ_ret, cutE_ret]))
  refine rt ?_
  exact Le.refl _
def sendF (n : Nd) (to : Int) (m : Ms) : Ms := { m with frm := n.id, to := to, term := n.term }
theorem send_fn {b : Nat} {n : Nd} {out : List Ms} {H : Heap} (to : Int) (m : Ms) (hb : out.length ≤ 1000) (hw : WkH b n out H) : FnH Try.prog 61 [pW b, ei to, ms m] H (fun r H' => r = .tup [] ∧ WkH b n (out ++ [sendF n to m]) H') := by
  obtain ⟨vl, vo, Hl, Ho, h1, h2, rfl⟩ := hw
  obtain ⟨p, c, rfl⟩ := h1.len
  obtain ⟨q, d, rfl⟩ := h2.len
  refine fn_enter Try.func61 (by rfl) (by rfl) ?_
  intro S0 w0
  show Sim _ _ [(0, pW b), (1, ei to), (2, T.agg (msC m (eens m.entries)))] _ _
  (repeat (first | apply cn | apply cq | apply cb | apply ck | apply cl | apply cx))
  apply cr
  refine e_bx fun b5 _ => ?_
  (repeat (first | apply cn | apply cq | apply cb | apply ck | apply cl | apply cx))
  refine ca [0, 1, 2, 3, 4, 5, 6, 7, 8, 9, 10, 11, 12, 13, 14, 15, 16] [12, 14, 16] ?_
  refine a_ (fun _ => p_mv) ?_
  refine a_ (fun _ => p_nc) ?_
  refine a_ (fun _ => p_fr) ?_
  refine a_ (fun _ => p_fr) ?_
  refine a_lo ?_
  refine a_ (fun _ => p_mv) ?_
  refine a_ (fun _ => p_mv) ?_
  refine a_ (fun _ => p_nc) ?_
  refine a_ (fun _ => p_fr) ?_
  refine a_ (fun _ => p_fr) ?_
  refine a_lo ?_
  refine a_ (fun _ => p_fr) ?_
  refine a_st ?_
  refine a_ (fun _ => p_fr) ?_
  refine a_st ?_
  refine a_ (fun _ => p_fr) ?_
  refine a_st ?_
  apply an
  (repeat (first | apply cn | apply cq | apply cb | apply ck | apply cl | apply cx))
  (repeat (first | apply cn | apply cq | apply cb | apply ck | apply cl | apply cx))
  refine ca [0, 1, 2, 3, 4, 5, 6, 7, 8, 9, 10] [7, 10] ?_
  refine a_ (fun _ => p_mv) ?_
  refine a_ (fun _ => p_mv) ?_
  refine a_ (fun _ => p_nc) ?_
  refine a_ (fun _ => p_fr) ?_
  refine a_lo ?_
  refine a_loa ?_
  refine a_ (fun _ => p_bs) ?_
  refine a_os (ho := h2) (A := _ :: _ :: Hl) (B := []) (ms11 out) (fun v' Hs' h3 => ⟨by (repeat (first | exact trivial | (apply And.intro; focus (intro hb; first | exact trivial | exact noB hb rfl | (repeat (first | exact hZ | apply hS | apply hA)))))), ?_⟩)
  (apply Exists.intro; apply And.intro; (focus (repeat (first | exact PDrop.nil | apply PDrop.dropL rfl | apply PDrop.keep))))
  obtain ⟨q', d', rfl⟩ := h3.len
  refine a_ (fun _ => p_nc) ?_
  refine a_ (fun _ => p_fr) ?_
  refine a_st ?_
  apply an
  (repeat (first | apply cn | apply cq | apply cb | apply ck | apply cl | apply cx))
  exact rhn (.skip _ _ _ kR) ⟨rfl, _, _, Hl, Hs', h1, (by unfold OM; rw [List.map_append]; exact h3), rfl⟩ (Le.refl _)
def emptyM : Ms := ⟨0, 0, 0, 0, 0, 0, 0, 0, false, [], []⟩
/-- What is owed. -/
def oweF (n : Nd) (to : Int) : Ms := sendF n to (if n.next.get to.toNat ≤ n.base then ⟨5, 0, 0, 0, n.base, n.baseTerm, 0, n.baseConf, false, [], n.snap⟩
  else ⟨3, 0, 0, 0, n.next.get to.toNat - 1, termF n (n.next.get to.toNat - 1), n.commit, 0, false, (n.log.drop (min (n.next.get to.toNat - 1 - n.base) n.log.length).toNat).take 8, []⟩)
theorem five {to : Int} (h0 : 0 ≤ to) (h5 : to < 5) : to = 0 ∨ to = 1 ∨ to = 2 ∨ to = 3 ∨ to = 4 := by omega
theorem next_at {n : Nd} {vl vo : Value} {to : Int} (h0 : 0 ≤ to) (h5 : to < 5) : (wkC n vl vo)[0 + 0 + 12 + to.toNat * 1]? = some (ei (n.next.get to.toNat)) := by
  rcases five h0 h5 with rfl | rfl | rfl | rfl | rfl <;> rfl
theorem owe_fn {b : Nat} {n : Nd} {out : List Ms} {H : Heap} (to : Int) (h0 : 0 ≤ to) (h5 : to < 5) (hl : n.log.length ≤ 1000000000) (hb1 : -100000000000 ≤ n.base) (hb2 : n.base ≤ 100000000000) (hb3 : n.next.get to.toNat ≤ 100000000000) (hb : out.length ≤ 1000) (hw : WkH b n out H) :
    FnH Try.prog 33 [pW b, ei to] H (fun r H' => r = .tup [] ∧ WkH b n (out ++ [oweF n to]) H') := by
  have hw' := hw
  obtain ⟨vl, vo, Hl, Ho, h1, h2, rfl⟩ := hw
  obtain ⟨p, c, rfl⟩ := h1.len
  obtain ⟨q, d, rfl⟩ := h2.len
  refine fn_enter Try.func33 (by rfl) (by rfl) ?_
  intro S0 w0
  show Sim _ _ [(0, pW b), (1, ei to)] _ _
  (repeat (first | apply cn | apply cq | apply cb | apply ck | apply cl | apply cx))
  refine ca [0, 1, 2, 3, 4, 5, 6, 7, 8, 9, 10, 11, 12] [] ?_
  refine a_ (fun _ => p_mv) ?_
  refine a_ (fun _ => p_mv) ?_
  refine a_ (fun _ => p_nc) ?_
  refine a_ (fun _ => p_fr) ?_
  refine a_ (fun _ => p_fr) ?_
  refine a_ (fun _ => p_ar) ?_
  refine a_lo (hd := next_at h0 h5) ?_
  refine a_ (fun _ => p_mv) ?_
  refine a_ (fun _ => p_nc) ?_
  refine a_ (fun _ => p_fr) ?_
  refine a_ (fun _ => p_fr) ?_
  refine a_lo ?_
  refine a_ (fun _ => p_le) ?_
  apply an
  (repeat (first | apply cn | apply cq | apply cb | apply ck | apply cl | apply cx))
  refine ci ?_ ?_
  · intro hc
    (repeat (first | apply cn | apply cq | apply cb | apply ck | apply cl | apply cx))
    refine ca [0, 1, 2, 3, 4, 5, 6, 7, 8, 9, 10, 11, 12, 13, 14, 15, 16, 17, 18, 19, 20, 21, 22, 23] [23] ?_
    refine a_ (fun _ => p_mv) ?_
    refine a_ (fun _ => p_mv) ?_
    refine a_ (fun _ => p_mv) ?_
    refine a_ (fun _ => p_nc) ?_
    refine a_ (fun _ => p_fr) ?_
    refine a_ (fun _ => p_fr) ?_
    refine a_lo ?_
    refine a_ (fun _ => p_mv) ?_
    refine a_ (fun _ => p_nc) ?_
    refine a_ (fun _ => p_fr) ?_
    refine a_ (fun _ => p_fr) ?_
    refine a_lo ?_
    refine a_ (fun _ => p_mv) ?_
    refine a_ (fun _ => p_nc) ?_
    refine a_ (fun _ => p_fr) ?_
    refine a_ (fun _ => p_fr) ?_
    refine a_lo ?_
    refine a_ (fun _ => p_mv) ?_
    refine a_ (fun _ => p_nc) ?_
    refine a_ (fun _ => p_fr) ?_
    refine a_ (fun _ => p_fr) ?_
    refine a_lo ?_
    refine a_ (fun _ => p_bd 11 [_, _, _, _, _, _, _, _, _, _, _]) ?_
    refine a_cH (FnH.of_le ?_ (send_fn to ⟨5, 0, 0, 0, n.base, n.baseTerm, 0, n.baseConf, false, [], n.snap⟩ hb hw')) (fun r H' ⟨hr, h3⟩ => ⟨by (repeat (first | exact trivial | (apply And.intro; focus (intro hb; first | exact trivial | exact noB hb rfl | (repeat (first | exact hZ | apply hS | apply hA)))))), ?_⟩)
    · ((repeat (apply LeL.cons; (first | exact Le.refl _ | exact Le.nil _ | exact Le.full _ _ | exact Le.any _ | (apply Le.agg; (repeat (apply LeL.cons; (first | exact Le.refl _ | exact Le.nil _ | exact Le.full _ _ | exact Le.any _))); exact LeL.nil) | (apply Le.tup; (repeat (apply LeL.cons; (first | exact Le.refl _ | exact Le.nil _ | exact Le.full _ _ | exact Le.any _ | (apply Le.agg; (repeat (apply LeL.cons; (first | exact Le.refl _ | exact Le.nil _ | exact Le.full _ _ | exact Le.any _))); exact LeL.nil)))); exact LeL.nil)))); exact LeL.nil)
    · (apply Exists.intro; apply And.intro; (focus (repeat (first | exact PDrop.nil | apply PDrop.dropL rfl | apply PDrop.keep))))
      subst hr
      apply an
      (repeat (first | apply cn | apply cq | apply cb | apply ck | apply cl | apply cx))
      (apply sim_ret; (try simp only [blockΨ_ret, thenΨ_ret, loopL_ret, cutΨ_ret, cutE_ret]))
      refine rh kR ⟨rfl, ?_⟩ (Le.refl _)
      rw [oweF, if_pos hc]
      exact h3
  · intro hc
    have ht := term_fn n (n.next.get to.toNat - 1) hl (by simp only [big]; omega) (by simp only [big]; omega) (by simp only [big]; omega) (by simp only [big]; omega)
    (repeat (first | apply cn | apply cq | apply cb | apply ck | apply cl | apply cx))
    apply cr
    refine s_ p_mv ?_
    refine s_ p_mv ?_
    refine s_ p_nc ?_
    refine s_ p_fr ?_
    refine s_ p_fr ?_
    refine s_ p_ar ?_
    refine s_ (p_lo (hd := next_at h0 h5)) ?_
    refine s_ p_su ?_
    refine s_ p_as ?_
    (repeat (first | apply cn | apply cq | apply cb | apply ck | apply cl | apply cx))
    (repeat (first | apply cn | apply cq | apply cb | apply ck | apply cl | apply cx))
    refine ca [0, 1, 2, 3, 4, 5, 6, 7, 8, 9, 10, 11, 12, 13, 14, 15, 16, 17, 18, 19, 20] [] ?_
    refine a_ (fun _ => p_mv) ?_
    refine a_ (fun _ => p_nc) ?_
    refine a_ (fun _ => p_fr) ?_
    refine a_ (fun _ => p_fr) ?_
    refine a_lo ?_
    refine a_ (fun _ => p_mv) ?_
    refine a_ (fun _ => p_mv) ?_
    refine a_ (fun _ => p_nc) ?_
    refine a_ (fun _ => p_fr) ?_
    refine a_ (fun _ => p_fr) ?_
    refine a_lo ?_
    refine a_ (fun _ => p_su) ?_
    refine a_ (fun _ => p_mv) ?_
    refine a_ (fun _ => p_nc) ?_
    refine a_ (fun _ => p_fr) ?_
    refine a_ (fun _ => p_fr) ?_
    refine a_lo ?_
    (first | refine a_ (fun _ => p_ln) ?_ | refine a_ (fun _ => p_lr) ?_)
    refine a_ (fun _ => p_mi) ?_
    obtain ⟨m, hm⟩ : ∃ m : Nat, (m : Int) = min (n.next.get to.toNat - 1 - n.base) ((n.log.map een).length : Nat) := ⟨(min (n.next.get to.toNat - 1 - n.base) ((n.log.map een).length : Nat)).toNat, by omega⟩
    have hml : m ≤ n.log.length := by simp only [List.length_map] at hm; omega
    have hs5 := (h1.sle (G := (b, ⟨tW, wkC n (.slice p (n.log.map een).length c) (.slice q (out.map ms).length d), 23⟩) :: (Hl ++ (Ho ++ []))) (by intro p hp; simp [hp]))
    have hs5' := SlE.sub hs5 (lo := m) (hi := n.log.length) hml (Nat.le_refl _)
    rw [List.take_of_length_le (by simp)] at hs5'
    obtain ⟨p5, c5, e5, hc5, hl5⟩ := hs5'
    rw [← hm]
    refine a_ (fun _ => p_sbl (i := (m : Int)) (p := p) (n := (n.log.map een).length) (c := c) h1.cap (by simp only [List.length_map, Int.toNat_natCast]; exact e5)) ?_
    refine a_ (fun _ => p_as) ?_
    apply an
    (repeat (first | apply cn | apply cq | apply cb | apply ck | apply cl | apply cx))
    (repeat (first | apply cn | apply cq | apply cb | apply ck | apply cl | apply cx))
    (repeat (first | apply cn | apply cq | apply cb | apply ck | apply cl | apply cx))
    refine ca [0, 1, 2, 3, 4, 5, 6, 7, 8, 9, 10, 11, 12, 14, 15, 16, 17, 18, 13, 19, 20] [13, 20] ?_
    refine a_ (fun _ => p_mv) ?_
    refine a_ (fun _ => p_mv) ?_
    refine a_ (fun _ => p_mv) ?_
    refine a_ (fun _ => p_mv) ?_
    refine a_ (fun _ => p_nc) ?_
    refine a_ (fun _ => p_fr) ?_
    refine a_ (fun _ => p_mv) ?_
    refine a_cL (G := (b, _) :: (Hl ++ (Ho ++ []))) ht (LendsL.cons (nd_ptr h1 (by intro p hp; simp [hp]) List.mem_cons_self) (LendsL.cons (Lends.le (Le.refl _)) LendsL.nil)) ⟨[], perm0⟩ ?_
    refine a_ (fun _ => p_mv) ?_
    refine a_ (fun _ => p_mv) ?_
    (first | refine a_ (fun _ => p_ln) ?_ | refine a_ (fun _ => p_lr) ?_)
    refine a_ (fun _ => p_mi) ?_
    obtain ⟨k, hk⟩ : ∃ k : Nat, (k : Int) = min (((n.log.drop m).length : Nat) : Int) 8 := ⟨min (n.log.drop m).length 8, by omega⟩
    have hs6 := SlE.sub ⟨p5, c5, rfl, hc5, e5 ▸ hl5⟩ (lo := 0) (hi := k) (Nat.zero_le _) (by omega)
    simp only [List.drop_zero, Nat.sub_zero] at hs6
    obtain ⟨p6, c6, e6, hc6, hl6⟩ := hs6
    rw [← hk]
    refine a_ (fun _ => p_sbh (j := (k : Int)) (p := p5) (n := (n.log.drop m).length) (c := c5) hc5 (by simp only [Int.toNat_natCast]; exact e6)) ?_
    refine a_ (fun _ => p_mv) ?_
    refine a_ (fun _ => p_nc) ?_
    refine a_ (fun _ => p_fr) ?_
    refine a_ (fun _ => p_fr) ?_
    refine a_lo ?_
    refine a_cLH (clone_fn false ((n.log.drop m).take k) (by simp; omega)) (LendsL.cons (e6 ▸ hl6) LendsL.nil) ⟨[], perm0⟩ OE.of ?_
    rintro r H1 ⟨v, rfl, ho⟩
    obtain ⟨p7, c7, rfl⟩ := ho.len
    refine ⟨by (repeat (first | exact trivial | (apply And.intro; focus (intro hb; first | exact trivial | exact noB hb rfl | (repeat (first | exact hZ | apply hS | apply hA)))))), ?_⟩
    (apply Exists.intro; apply And.intro; (focus (repeat (first | exact PDrop.nil | apply PDrop.dropL rfl | apply PDrop.keep))))
    refine a_ (fun _ => p_bd 11 [_, _, _, _, _, _, _, _, _, _, _]) ?_
    refine a_cH (FnH.lend (G := H1) ?_ (send_fn to ⟨3, 0, 0, 0, n.next.get to.toNat - 1, termF n (n.next.get to.toNat - 1), n.commit, 0, false, (n.log.drop m).take k, []⟩ hb hw')) (fun r H' ⟨hr, h3⟩ => ⟨by (repeat (first | exact trivial | (apply And.intro; focus (intro hb; first | exact trivial | exact noB hb rfl | (repeat (first | exact hZ | apply hS | apply hA)))))), ?_⟩)
    · refine LendsL.cons (Lends.le (Le.refl _)) (LendsL.cons (Lends.le (Le.refl _)) (LendsL.cons (Lends.agg ?_) LendsL.nil))
      repeat (first | exact LendsL.nil | (refine LendsL.cons (Lends.le (Le.refl _)) ?_) | (refine LendsL.cons (ho.lend fun _ h => h) ?_))
    · (apply Exists.intro; apply And.intro; (focus (repeat (first | exact PDrop.nil | apply PDrop.dropL rfl | apply PDrop.keep))))
      subst hr
      apply an
      (repeat (first | apply cn | apply cq | apply cb | apply ck | apply cl | apply cx))
      refine rhn kR ⟨rfl, ?_⟩ (Le.refl _)
      have e1 : (min (n.next.get to.toNat - 1 - n.base) (n.log.length : Int)).toNat = m := by simp only [List.length_map] at hm; omega
      have e2 : (n.log.drop m).take 8 = (n.log.drop m).take k := by
        rw [List.take_eq_take_iff]; omega
      rw [oweF, if_neg hc, e1, e2]
      exact h3
end Go.Proofs.Ytppaabahbjgihaa
