/-
  LowerChecks: any chain is checked as the document says.
-/
import Derived.Test.YthndbbjkkehjeaaLowH
set_option maxRecDepth 4000
namespace Go.Proofs.Ythndbbjkkehjeaa
open Go.Cap
set_option linter.unusedSimpArgs false
set_option linter.unusedVariables false
attribute [local irreducible] POp SimFrom DrawFrom EOp Sim FnH T.gp
/-- Elements of a row that the law makes, and the posts that they are. -/
structure PR (xs : List T) (ps : List Po) : Prop where
  len : xs.length = ps.length
  two : ∀ x ∈ xs, x.cells.length = 2
  le : LeL (xs.flatMap T.cells) ((ps.map ep).flatMap T.cells)
theorem PR.nil : PR [] [] := ⟨rfl, by simp, LeL.nil⟩
theorem PR.snoc {xs : List T} {ps : List Po} {x : T} {p : Po} (h : PR xs ps) (h2 : x.cells.length = 2) (hx : LeL x.cells (ep p).cells) : PR (xs ++ [x]) (ps ++ [p]) :=
  ⟨by simp [h.len], fun y hy => by
    rcases List.mem_append.1 hy with hy | hy
    · exact h.two y hy
    · simp at hy; subst hy; exact h2, by simpa using LeL.append h.le hx⟩
theorem flat_split (xs : List T) (ys : List T) : (xs ++ ys).flatMap T.cells = xs.flatMap T.cells ++ ys.flatMap T.cells := by simp
theorem LeL.takeR {xs ys : List T} (h : LeL xs ys) (n : Nat) (hn : n ≤ xs.length) (hl : xs.length = ys.length) : True := trivial
theorem PR.set : ∀ {xs : List T} {ps : List Po} {k : Nat} {x' : T} {p' : Po}, (∀ (y : T) (q : Po), (y, q) ∈ xs.zip ps → y.cells.length = 2 ∧ LeL y.cells (ep q).cells) → xs.length = ps.length → x'.cells.length = 2 → LeL x'.cells (ep p').cells →
    PR (xs.set k x') (ps.set k p')
  | [], [], _, _, _, _, _, _, _ => PR.nil
  | x :: xs, p :: ps, 0, x', p', h, hl, h2, hx => by
    have ih : ∀ {xs : List T} {ps : List Po}, (∀ (y : T) (q : Po), (y, q) ∈ xs.zip ps → y.cells.length = 2 ∧ LeL y.cells (ep q).cells) → xs.length = ps.length → PR xs ps := by
      intro xs
      induction xs with
      | nil => intro ps _ hl; cases ps <;> first | exact PR.nil | simp at hl
      | cons y ys ih =>
        intro ps h hl
        cases ps with
        | nil => simp at hl
        | cons q qs =>
          have r := ih (ps := qs) (fun a b hab => h a b (by simp [hab])) (by simpa using hl)
          have c := h y q (by simp)
          exact ⟨by simp [r.len], fun a ha => by
            rcases List.mem_cons.1 ha with rfl | ha
            · exact c.1
            · exact r.two a ha, by simpa using LeL.append c.2 r.le⟩
    have r := ih (xs := xs) (ps := ps) (fun a b hab => h a b (by simp [hab])) (by simpa using hl)
    exact ⟨by simp [r.len], fun a ha => by
      rcases List.mem_cons.1 (by simpa using ha) with rfl | ha
      · exact h2
      · exact r.two a ha, by simpa using LeL.append hx r.le⟩
  | x :: xs, p :: ps, k + 1, x', p', h, hl, h2, hx => by
    have r := PR.set (xs := xs) (ps := ps) (k := k) (x' := x') (p' := p') (fun a b hab => h a b (by simp [hab])) (by simpa using hl) h2 hx
    have c := h x p (by simp)
    exact ⟨by simpa using r.len, fun a ha => by
      rcases List.mem_cons.1 (by simpa using ha) with rfl | ha
      · exact c.1
      · exact r.two a ha, by simpa using LeL.append c.2 r.le⟩
/-- Elements without bytes. -/
def mk (a : Int) : T := .agg [.v (.int .i64 a), .v (.slice none 0 0)]
def po (a : Int) : Po := ⟨a, []⟩
theorem mk_le (a : Int) : LeL (mk a).cells (ep (po a)).cells := LeL.cons (Le.refl _) (LeL.cons (Le.nil _) LeL.nil)
theorem mks_pair (l : List Int) : ∀ (y : T) (q : Po), (y, q) ∈ (l.map mk).zip (l.map po) → y.cells.length = 2 ∧ LeL y.cells (ep q).cells := by
  intro y q h
  rw [List.zip_map'] at h
  obtain ⟨a, _, e⟩ := List.mem_map.1 h
  cases e
  exact ⟨rfl, mk_le a⟩
theorem pr_mks (l : List Int) : PR (l.map mk) (l.map po) :=
  ⟨by simp, fun x hx => by obtain ⟨a, _, rfl⟩ := List.mem_map.1 hx; rfl, by
    induction l with
    | nil => exact LeL.nil
    | cons a l ih => simpa using LeL.append (mk_le a) ih⟩
def atsP (H : Int) (n : Nat) : List Int := (List.range n).map fun i : Nat => 1 + min (i : Int) H
def atsF (H : Int) (n : Nat) : List Int := (List.range n).map fun i : Nat => 1 + min ((i : Int).tdiv 2) H
theorem atsP_succ (H : Int) (n : Nat) : atsP H (n + 1) = atsP H n ++ [1 + min (n : Int) H] := by simp [atsP, List.range_succ]
theorem atsF_succ (H : Int) (n : Nat) : atsF H (n + 1) = atsF H n ++ [1 + min ((n : Int).tdiv 2) H] := by simp [atsF, List.range_succ]
theorem checkGo_map (h long : Int) (hl : 0 ≤ long) (f : Nat → Int) (hm : ∀ i, f i ≤ f (i + 1)) (hh : ∀ i, f i ≤ h) : ∀ (n s : Nat) (last : Int), last ≤ 1 + f s → checkGo h long last (((List.range' s n).map fun i => 1 + f i).map po) = 0
  | 0, _, _, _ => rfl
  | n + 1, s, last, hs => by
    have := hh s
    have := hm s
    rw [List.range'_succ, List.map_cons, List.map_cons, checkGo, if_neg (by simp only [po]; omega), if_neg (by simp [po]; omega)]
    exact checkGo_map h long hl f hm hh n (s + 1) _ (by simp only [po]; omega)
theorem nat_half (i : Nat) : (i : Int).tdiv 2 = ((i / 2 : Nat) : Int) := by rw [Int.tdiv_eq_ediv_of_nonneg (by omega)]; omega
theorem check_made (H : Int) (np nf : Nat) (h0 : 0 ≤ H) (h1 : H < 20) (hp : np ≤ 10) (hf : nf ≤ 10) : checkF ⟨H, (atsP H np).map po, (atsF H nf).map po⟩ = 0 := by
  have c1 := checkGo_map H 4000 (by omega) (fun i => min (i : Int) H) (fun i => by omega) (fun i => by omega) np 0 1 (by omega)
  have c2 := checkGo_map H 200 (by omega) (fun i => min ((i : Int).tdiv 2) H) (fun i => by simp only [nat_half]; omega) (fun i => by omega) nf 0 1 (by simp only [nat_half]; omega)
  rw [checkF, if_neg (by simp only; omega), if_neg (by simp [atsP, atsF]; omega)]
  simp only [atsP, atsF, List.range_eq_range']
  rw [if_pos c1, c2]
theorem lendX {Hp Hf : Heap} {xs ys : List T} {ps qs : List Po} {vp vf : Value} {h : Int} (op : OSl 34 2 xs vp Hp) (of : OSl 34 2 ys vf Hf) (rp : PR xs ps) (rf : PR ys qs) :
    LendsL (Hp ++ (Hf ++ [])) [.agg [.v (.int .i64 h), .v vp, .v vf]] [el ⟨h, ps, qs⟩] := by
  refine LendsL.cons (Lends.agg (LendsL.cons (Lends.le (Le.refl _)) (LendsL.cons ?_ (LendsL.cons ?_ LendsL.nil)))) LendsL.nil
  · exact op.lends (fun p hp => by simp [hp]) (LendsL.le rp.le) (by simp [rp.len]) rp.two (by (repeat (first | exact lenOk_nil | (apply lenOk_map; intro _; rfl) | apply lenOk_append | apply lenOk_take | apply lenOk_drop | (apply lenOk_cons; rfl)))) (solid_map _ (fun _ => .inr ⟨_, rfl⟩) _)
  · exact of.lends (fun p hp => by simp [hp]) (LendsL.le rf.le) (by simp [rf.len]) rf.two (by (repeat (first | exact lenOk_nil | (apply lenOk_map; intro _; rfl) | apply lenOk_append | apply lenOk_take | apply lenOk_drop | (apply lenOk_cons; rfl)))) (solid_map _ (fun _ => .inr ⟨_, rfl⟩) _)
theorem atsP_len (H : Int) (n : Nat) : (atsP H n).length = n := by simp [atsP]
theorem atsF_len (H : Int) (n : Nat) : (atsF H n).length = n := by simp [atsF]
/-- What the law made, and turned. -/
structure Made where
  h : Int
  xs : List T
  ys : List T
  ps : List Po
  qs : List Po
  vp : Value
  vf : Value
  Hp : Heap
  Hf : Heap
structure Made.Ok (m : Made) : Prop where
  op : OSl 34 2 m.xs m.vp m.Hp
  of : OSl 34 2 m.ys m.vf m.Hf
  rp : PR m.xs m.ps
  rf : PR m.ys m.qs
  np : m.ps.length ≤ 10
  nf : m.qs.length ≤ 10
  ap : ∀ p ∈ m.ps, p.at_ ≤ 9223372036854775807
  af : ∀ p ∈ m.qs, p.at_ ≤ 9223372036854775807
theorem perm2 {p q : Nat × Blk} {G : Heap} : ∃ H1, (p :: q :: G).Perm (G ++ H1) := ⟨[p, q], (List.perm_append_comm (l₁ := [p, q]) (l₂ := G))⟩
theorem mem_set' {l : List Po} {k : Nat} {x p : Po} (h : p ∈ l.set k x) : p ∈ l ∨ p = x := List.mem_or_eq_of_mem_set h
theorem po_at (H : Int) (h1 : H < 20) (n : Nat) : (∀ p ∈ (atsP H n).map po, p.at_ ≤ 9223372036854775807) ∧ ∀ p ∈ (atsF H n).map po, p.at_ ≤ 9223372036854775807 := by
  constructor <;> intro p hp <;> obtain ⟨a, ha, rfl⟩ := List.mem_map.1 hp <;> obtain ⟨i, _, rfl⟩ := List.mem_map.1 ha <;> simp only [po] <;> omega
set_option maxHeartbeats 4000000 in
theorem checks_fn (l : Lo) (which at_ n : Int) (hn : n ≤ 9223372036854775807) (ha1 : ∀ p ∈ l.posts, p.at_ ≤ 9223372036854775807) (ha2 : ∀ p ∈ l.forced, p.at_ ≤ 9223372036854775807) :
    FnP Try.prog 4 [el l, ei which, ei at_, ei n] (fun r => r = .v (.bool true)) := by
  refine fn_enter Try.func4 (by rfl) (by rfl) ?_
  intro S0 w0
  show Sim _ _ [(0, .agg [.v (.int .i64 l.height), eps l.posts, eps l.forced]), (1, .v (.int .i64 which)), (2, .v (.int .i64 at_)), (3, .v (.int .i64 n))] _ _
  (repeat (first | apply cn | apply cq | apply cb | apply ck | apply cl | apply cx))
  apply cr
  refine e_bx fun b4 _ => ?_
  refine s_ p_as ?_
  (repeat (first | apply cn | apply cq | apply cb | apply ck | apply cl | apply cx))
  apply cr
  refine s_ (p_ca (known_fn)) ?_
  refine s_ p_no ?_
  (repeat (first | apply cn | apply cq | apply cb | apply ck | apply cl | apply cx))
  refine ci ?_ ?_
  · intro h; exact absurd trivial h
  intro _
  (repeat (first | apply cn | apply cq | apply cb | apply ck | apply cl | apply cx))
  apply cr
  refine s_ p_fr ?_
  refine s_ p_lo ?_
  (first | refine s_ p_ln ?_ | refine s_ p_lr ?_)
  refine s_ p_gt ?_
  refine s_ p_mv ?_
  refine gF (fun hg => p_fr) ?_
  refine gF (fun hg => p_lo (hx := u_ hg)) ?_
  (first | refine gF (fun hg => p_ln (hx := u_ hg)) ?_ | refine gF (fun hg => p_lr (hx := u_ hg)) ?_)
  refine gF (fun hg => p_gt (hx := u_ hg)) ?_
  refine s_ p_or ?_
  (repeat (first | apply cn | apply cq | apply cb | apply ck | apply cl | apply cx))
  refine ci ?_ ?_
  · intro _
    (repeat (first | apply cn | apply cq | apply cb | apply ck | apply cl | apply cx))
    apply cr
    refine s_ p_as ?_
    (repeat (first | apply cn | apply cq | apply cb | apply ck | apply cl | apply cx))
    (apply sim_ret; (try simp only [blockΨ_ret, thenΨ_ret, loopL_ret, cutΨ_ret, cutE_ret]); first | refine rt ?_ | refine rn ?_)
    exact Le.refl _
  intro h0
  simp only [List.length_map, not_or, Int.not_lt] at h0
  (repeat (first | apply cn | apply cq | apply cb | apply ck | apply cl | apply cx))
  apply cr
  refine s_ p_as ?_
  (repeat (first | apply cn | apply cq | apply cb | apply ck | apply cl | apply cx))
  apply sim_loopL (σ := Nat) (ok := fun i => i ≤ l.posts.length) (env := fun i => [(9, .v (.int .i64 i)), (4, .v (.pointer (some ⟨b4, 0, none⟩))), (1, .v (.int .i64 which)), (2, .v (.int .i64 at_)), (3, .v (.int .i64 n))])
    (heap := fun _ => [(b4, ⟨25, elc l, 3⟩)]) (μ := fun i => l.posts.length - i) (s0 := 0)
  · simp
  · exact eL
  · exact kK kN
  intro i hi
  (repeat (first | apply cn | apply cq | apply cb | apply ck | apply cl | apply cx))
  apply cr
  refine s_ p_mv ?_
  refine s_ p_fr ?_
  refine s_ p_lo ?_
  (first | refine s_ p_ln ?_ | refine s_ p_lr ?_)
  refine s_ p_lt ?_
  (repeat (first | apply cn | apply cq | apply cb | apply ck | apply cl | apply cx))
  refine ci ?_ ?_
  · intro hlt
    have hix : i < l.posts.length := by simpa using hlt
    (repeat (first | apply cn | apply cq | apply cb | apply ck | apply cl | apply cx))
    apply cr
    refine s_ p_fr ?_
    refine s_ p_lo ?_
    refine s_ p_mv ?_
    (first | refine s_ (p_ix hix) ?_ | refine s_ (p_ix hix2) ?_ | refine s_ p_ia ?_ | refine s_ p_ir ?_)
    (first | refine s_ p_fa ?_ | refine s_ p_fr ?_)
    (first | refine s_ p_ld ?_ | refine s_ p_lo ?_)
    (first | refine s_ p_ln ?_ | refine s_ p_lr ?_)
    refine s_ p_gt ?_
    (repeat (first | apply cn | apply cq | apply cb | apply ck | apply cl | apply cx))
    refine ci ?_ ?_
    · intro _
      (repeat (first | apply cn | apply cq | apply cb | apply ck | apply cl | apply cx))
      apply cr
      refine s_ p_as ?_
      (repeat (first | apply cn | apply cq | apply cb | apply ck | apply cl | apply cx))
      (apply sim_ret; (try simp only [blockΨ_ret, thenΨ_ret, loopL_ret, cutΨ_ret, cutE_ret]); first | refine rt ?_ | refine rn ?_)
      exact Le.refl _
    intro _
    (repeat (first | apply cn | apply cq | apply cb | apply ck | apply cl | apply cx))
    apply cr
    refine s_ p_mv ?_
    refine s_ p_ad ?_
    refine s_ p_as ?_
    (repeat (first | apply cn | apply cq | apply cb | apply ck | apply cl | apply cx))
    exact ⟨i + 1, by omega, (by simp only []; omega), eL, kK kN⟩
  intro _
  have k1 := check_fn l (by omega) (by omega) ha1 ha2
  have k2 := rcheck_fn l (by omega) (by omega)
  (repeat (first | apply cn | apply cq | apply cb | apply ck | apply cl | apply cx))
  refine ca [0, 1, 2, 3, 4] [] ?_
  refine a_loa ?_
  refine a_ (fun _ => p_ca (k1)) ?_
  refine a_loa ?_
  refine a_ (fun _ => p_ca (k2)) ?_
  refine a_ (fun _ => p_ne) ?_
  apply an
  (repeat (first | apply cn | apply cq | apply cb | apply ck | apply cl | apply cx))
  refine ci ?_ ?_
  · intro h; exact absurd rfl h
  intro _
  have hH : 0 ≤ l.height % 20 ∧ l.height % 20 < 20 := by omega
  generalize hHe : l.height % 20 = H at hH
  have hw20 := within_fn l.height 20 (by omega) (by omega)
  rw [hHe] at hw20
  (repeat (first | apply cn | apply cq | apply cb | apply ck | apply cl | apply cx))
  apply cr
  refine s_ p_fr ?_
  refine s_ p_lo ?_
  refine s_ (p_ca (hw20)) ?_
  refine s_ (p_bd 3 [_, _, _]) ?_
  refine e_al fun b10 _ => ?_
  refine e_st ?_
  (repeat (first | apply cn | apply cq | apply cb | apply ck | apply cl | apply cx))
  apply cr
  refine s_ p_as ?_
  (repeat (first | apply cn | apply cq | apply cb | apply ck | apply cl | apply cx))
  apply sim_loopL (σ := Nat × Value × Heap) (ok := fun s => s.1 ≤ 10 ∧ OSl 34 2 ((atsP H s.1).map mk) s.2.1 s.2.2) (env := fun s => [(11, .v (.int .i64 s.1)), (10, .v (.pointer (some ⟨b10, 0, none⟩))), (4, .v (.pointer (some ⟨b4, 0, none⟩))), (1, .v (.int .i64 which)), (2, .v (.int .i64 at_)), (3, .v (.int .i64 n))])
    (heap := fun s => (b10, ⟨25, [.v (.int .i64 H), .v s.2.1, .v (.slice none 0 0)], 3⟩) :: (b4, ⟨25, elc l, 3⟩) :: (s.2.2 ++ [])) (μ := fun s => 10 - s.1) (s0 := (0, .slice none 0 0, []))
  · exact ⟨by simp, osl_nil⟩
  · exact eL
  · exact kK (kK kN)
  rintro ⟨i, vp, Hp⟩ ⟨hi10, hop⟩
  simp only at hi10 hop
  (repeat (first | apply cn | apply cq | apply cb | apply ck | apply cl | apply cx))
  apply cr
  refine s_ p_mv ?_
  refine s_ p_fr ?_
  refine s_ p_lo ?_
  (first | refine s_ p_ln ?_ | refine s_ p_lr ?_)
  refine s_ p_lt ?_
  refine s_ p_mv ?_
  refine gT (fun hg => p_mv) ?_
  refine gT (fun hg => p_lt (hx := u_ hg)) ?_
  refine s_ p_an ?_
  (repeat (first | apply cn | apply cq | apply cb | apply ck | apply cl | apply cx))
  refine ci ?_ ?_
  · rintro ⟨hlt, h10⟩
    obtain ⟨p1, c1, rfl⟩ := hop.len
    have hal := atsP_len H i
    (repeat (first | apply cn | apply cq | apply cb | apply ck | apply cl | apply cx))
    apply cr
    refine s_ p_fr ?_
    refine s_ p_lo ?_
    refine s_ p_mv ?_
    refine s_ p_fr ?_
    refine s_ p_lo ?_
    refine s_ p_mi ?_
    refine s_ p_ad ?_
    refine s_ (p_bd 2 [_, _]) ?_
    refine s_ p_bs ?_
    refine e_os (A := _ :: [_]) hop (by (repeat (first | exact lenOk_nil | (apply lenOk_map; intro _; rfl) | apply lenOk_append | apply lenOk_take | apply lenOk_drop | (apply lenOk_cons; rfl)))) (fun v' Hs' ho' => ?_)
    obtain ⟨p2, c2, rfl⟩ := ho'.len
    refine s_ p_fr ?_
    refine e_st ?_
    (repeat (first | apply cn | apply cq | apply cb | apply ck | apply cl | apply cx))
    apply cr
    refine s_ p_mv ?_
    refine s_ p_ad ?_
    refine s_ p_as ?_
    (repeat (first | apply cn | apply cq | apply cb | apply ck | apply cl | apply cx))
    refine ⟨(i + 1, _, Hs'), ⟨by simp only; omega, ?_⟩, (by simp only []; omega), eL, kK (kK kR)⟩
    rw [atsP_succ, List.map_append]
    exact ho'
  intro _
  clear k1 k2 hi h0
  obtain ⟨p1, c1, rfl⟩ := hop.len
  (repeat (first | apply cn | apply cq | apply cb | apply ck | apply cl | apply cx))
  apply cr
  refine s_ p_as ?_
  (repeat (first | apply cn | apply cq | apply cb | apply ck | apply cl | apply cx))
  apply sim_loopL (σ := Nat × Value × Heap) (ok := fun s => s.1 ≤ 10 ∧ OSl 34 2 ((atsF H s.1).map mk) s.2.1 s.2.2) (env := fun s => [(12, .v (.int .i64 s.1)), (10, .v (.pointer (some ⟨b10, 0, none⟩))), (4, .v (.pointer (some ⟨b4, 0, none⟩))), (1, .v (.int .i64 which)), (2, .v (.int .i64 at_)), (3, .v (.int .i64 n))])
    (heap := fun s => (b10, ⟨25, [.v (.int .i64 H), .v (.slice p1 ((atsP H i).map mk).length c1), .v s.2.1], 3⟩) :: (b4, ⟨25, elc l, 3⟩) :: (Hp ++ (s.2.2 ++ []))) (μ := fun s => 10 - s.1) (s0 := (0, .slice none 0 0, []))
  · exact ⟨by simp, osl_nil⟩
  · exact eL
  · exact kK (kK kR)
  rintro ⟨j, vf, Hf⟩ ⟨hj10, hof⟩
  simp only at hj10 hof
  obtain ⟨p2, c2, rfl⟩ := hof.len
  (repeat (first | apply cn | apply cq | apply cb | apply ck | apply cl | apply cx))
  apply cr
  refine s_ p_mv ?_
  refine s_ p_fr ?_
  refine s_ p_lo ?_
  (first | refine s_ p_ln ?_ | refine s_ p_lr ?_)
  refine s_ p_lt ?_
  refine s_ p_mv ?_
  refine gT (fun hg => p_mv) ?_
  refine gT (fun hg => p_lt (hx := u_ hg)) ?_
  refine s_ p_an ?_
  (repeat (first | apply cn | apply cq | apply cb | apply ck | apply cl | apply cx))
  refine ci ?_ ?_
  · rintro ⟨hlt, h10⟩
    have hal := atsF_len H j
    have hhf := nat_half j
    (repeat (first | apply cn | apply cq | apply cb | apply ck | apply cl | apply cx))
    apply cr
    refine s_ p_fr ?_
    refine s_ p_lo ?_
    refine s_ p_mv ?_
    (first | refine s_ p_qu ?_ | refine s_ p_quw ?_)
    refine s_ p_fr ?_
    refine s_ p_lo ?_
    refine s_ p_mi ?_
    refine s_ p_ad ?_
    refine s_ (p_bd 2 [_, _]) ?_
    refine s_ p_bs ?_
    refine e_os (A := _ :: _ :: Hp) hof (by (repeat (first | exact lenOk_nil | (apply lenOk_map; intro _; rfl) | apply lenOk_append | apply lenOk_take | apply lenOk_drop | (apply lenOk_cons; rfl)))) (fun v' Hs' ho' => ?_)
    obtain ⟨p3, c3, rfl⟩ := ho'.len
    refine s_ p_fr ?_
    refine e_st ?_
    (repeat (first | apply cn | apply cq | apply cb | apply ck | apply cl | apply cx))
    apply cr
    refine s_ p_mv ?_
    refine s_ p_ad ?_
    refine s_ p_as ?_
    (repeat (first | apply cn | apply cq | apply cb | apply ck | apply cl | apply cx))
    refine ⟨(j + 1, _, Hs'), ⟨by simp only; omega, ?_⟩, (by simp only []; omega), eL, kK (kK kR)⟩
    rw [atsF_succ, List.map_append]
    exact ho'
  intro _
  have hl0 := lendX (h := H) hop hof (pr_mks (atsP H i)) (pr_mks (atsF H j))
  have hck := check_made H i j hH.1 hH.2 hi10 hj10
  have kc := check_fn ⟨H, (atsP H i).map po, (atsF H j).map po⟩ (by simp [atsP]; omega) (by simp [atsF]; omega) (po_at H hH.2 i).1 (po_at H hH.2 j).2
  rw [hck] at kc
  have hap := atsP_len H i
  have haf := atsF_len H j
  (repeat (first | apply cn | apply cq | apply cb | apply ck | apply cl | apply cx))
  apply cr
  refine s_ p_loa ?_
  refine s_ (p_cL kc hl0 perm2) ?_
  refine s_ p_ne ?_
  (repeat (first | apply cn | apply cq | apply cb | apply ck | apply cl | apply cx))
  refine ci ?_ ?_
  · intro h; exact absurd rfl h
  intro _
  have hw4 := within_fn which 4 (by omega) (by omega)
  (repeat (first | apply cn | apply cq | apply cb | apply ck | apply cl | apply cx))
  apply cr
  refine s_ p_mv ?_
  refine s_ (p_ca (hw4)) ?_
  apply cn
  apply sim_cutE (σ := Made) (ok := fun m => m.Ok) (env := fun m => [(10, .v (.pointer (some ⟨b10, 0, none⟩)))]) (heap := fun m => (b10, ⟨25, [.v (.int .i64 m.h), .v m.vp, .v m.vf], 3⟩) :: (b4, ⟨25, elc l, 3⟩) :: (m.Hp ++ (m.Hf ++ [])))
  · (repeat (first | apply cn | apply cq | apply cb | apply ck | apply cl | apply cx))
    (repeat (first | apply cn | apply cq | apply cb | apply ck | apply cl | apply cx))
    apply cr
    refine s_ p_eq ?_
    refine s_ p_as ?_
    (repeat (first | apply cn | apply cq | apply cb | apply ck | apply cl | apply cx))
    refine ci ?_ ?_
    · intro _
      (repeat (first | apply cn | apply cq | apply cb | apply ck | apply cl | apply cx))
      (repeat (first | apply cn | apply cq | apply cb | apply ck | apply cl | apply cx))
      apply cr
      refine s_ p_mv ?_
      refine s_ p_fr ?_
      refine e_st ?_
      (repeat (first | apply cn | apply cq | apply cb | apply ck | apply cl | apply cx))
      exact ⟨⟨n, _, _, _, _, _, _, Hp, Hf⟩, ⟨hop, hof, pr_mks _, pr_mks _, by simp [hap, hi10], by simp [haf, hj10], (po_at H hH.2 i).1, (po_at H hH.2 j).2⟩, eL, kK (kK kR)⟩
    intro _
    (repeat (first | apply cn | apply cq | apply cb | apply ck | apply cl | apply cx))
    apply cr
    refine s_ p_eq ?_
    refine s_ p_as ?_
    (repeat (first | apply cn | apply cq | apply cb | apply ck | apply cl | apply cx))
    refine ci ?_ ?_
    · intro _
      (repeat (first | apply cn | apply cq | apply cb | apply ck | apply cl | apply cx))
      (repeat (first | apply cn | apply cq | apply cb | apply ck | apply cl | apply cx))
      apply cr
      refine s_ p_fr ?_
      refine s_ p_lo ?_
      (first | refine s_ p_ln ?_ | refine s_ p_lr ?_)
      refine s_ p_gt ?_
      (repeat (first | apply cn | apply cq | apply cb | apply ck | apply cl | apply cx))
      refine ci ?_ ?_
      · intro hpos
        rcases hop with ⟨hx0, _, _⟩ | ⟨b, c, hb1, hc, rfl⟩
        · exfalso; simp [hx0] at hpos
        cases hb1
        have hlen : (List.map mk (atsP H i)).length = i := by simp [hap]
        generalize hN : (List.map mk (atsP H i)).length = N at *
        have e1 := Int.emod_nonneg at_ (show ((N : Nat) : Int) ≠ 0 by omega)
        have e2 := Int.emod_lt_of_pos at_ (show 0 < ((N : Nat) : Int) by omega)
        have hwi := within_fn at_ N (by omega) (by omega)
        have hfl : ((List.map mk (atsP H i)).flatMap T.cells).length = N * 2 := by rw [flat_lenT (k := 2) _ (by (repeat (first | exact lenOk_nil | (apply lenOk_map; intro _; rfl) | apply lenOk_append | apply lenOk_take | apply lenOk_drop | (apply lenOk_cons; rfl)))), hN]
        generalize hk : at_ % (N : Int) = k at *
        have hkN : k.toNat < N := by omega
        (repeat (first | apply cn | apply cq | apply cb | apply ck | apply cl | apply cx))
        refine ca [0, 1, 2, 3, 4, 5, 6, 7, 8, 9, 10] [10] ?_
        refine a_ (fun _ => p_fr) ?_
        refine a_lo ?_
        refine a_ (fun _ => p_mv) ?_
        refine a_ (fun _ => p_fr) ?_
        refine a_lo ?_
        (first | refine a_ (fun _ => p_ln) ?_ | refine a_ (fun _ => p_lr) ?_)
        refine a_ (fun _ => p_ca (hwi)) ?_
        refine a_ (fun _ => p_mv) ?_
        (first | refine a_ (fun _ => p_ix hix) ?_ | refine a_ (fun _ => p_ix hix2) ?_ | refine a_ (fun _ => p_ia) ?_ | refine a_ (fun _ => p_ir) ?_)
        (first | refine a_ (fun _ => p_fa) ?_ | refine a_ (fun _ => p_fr) ?_)
        refine a_ss ?_ ?_
        · show 0 + k.toNat * 2 + 0 + 1 ≤ _
          rw [hfl]; omega
        apply an
        have hel : (mk n).cells = lay ((List.map mk (atsP H i))[k.toNat]'(by omega)).cells 0 [.v (.int .i64 n)] := by rw [List.getElem_map]; rfl
        refine ⟨⟨H, (List.map mk (atsP H i)).set k.toNat (mk n), _, ((atsP H i).map po).set k.toNat (po n), _, .slice (some ⟨b, 0, none⟩) N c1, _, [(b, ⟨34, ((List.map mk (atsP H i)).set k.toNat (mk n)).flatMap T.cells, c1 * 2⟩)], Hf⟩, ⟨.inr ⟨b, c1, by simp [hN], by simpa [hN] using hc, rfl⟩, hof, PR.set (mks_pair _) (by simp) rfl (mk_le n), pr_mks _, by simp [hap, hi10], by simp [haf, hj10], ?_, (po_at H hH.2 j).2⟩, eL, ?_⟩
        · intro p hp
          rcases mem_set' hp with hp | rfl
          · exact (po_at H hH.2 i).1 p hp
          · exact hn
        · refine kK (kK (.keep _ _ _ _ _ (blk_eq rfl ?_ rfl) kR))
          have := flat_lay (kk := 2) (off := 0) (dc := [.v (.int .i64 n)]) (List.map mk (atsP H i)) k.toNat (by (repeat (first | exact lenOk_nil | (apply lenOk_map; intro _; rfl) | apply lenOk_append | apply lenOk_take | apply lenOk_drop | (apply lenOk_cons; rfl)))) (by omega) (by simp) hel
          rw [Nat.add_zero] at this
          show lay _ (0 + k.toNat * 2 + 0) _ = _
          rw [Nat.zero_add, Nat.add_zero]; exact this
      · intro _
        (repeat (first | apply cn | apply cq | apply cb | apply ck | apply cl | apply cx))
        exact ⟨⟨H, _, _, _, _, _, _, Hp, Hf⟩, ⟨hop, hof, pr_mks _, pr_mks _, by simp [hap, hi10], by simp [haf, hj10], (po_at H hH.2 i).1, (po_at H hH.2 j).2⟩, eL, kK (kK kR)⟩
    intro _
    (repeat (first | apply cn | apply cq | apply cb | apply ck | apply cl | apply cx))
    apply cr
    refine s_ p_eq ?_
    refine s_ p_as ?_
    (repeat (first | apply cn | apply cq | apply cb | apply ck | apply cl | apply cx))
    refine ci ?_ ?_
    · intro _
      (repeat (first | apply cn | apply cq | apply cb | apply ck | apply cl | apply cx))
      (repeat (first | apply cn | apply cq | apply cb | apply ck | apply cl | apply cx))
      apply cr
      refine s_ p_fr ?_
      refine s_ p_lo ?_
      (first | refine s_ p_ln ?_ | refine s_ p_lr ?_)
      refine s_ p_gt ?_
      (repeat (first | apply cn | apply cq | apply cb | apply ck | apply cl | apply cx))
      refine ci ?_ ?_
      · intro hpos
        rcases hof with ⟨hx0, _, _⟩ | ⟨b, c, hb1, hc, rfl⟩
        · exfalso; simp [hx0] at hpos
        cases hb1
        have hlen : (List.map mk (atsF H j)).length = j := by simp [haf]
        generalize hN : (List.map mk (atsF H j)).length = N at *
        have e1 := Int.emod_nonneg at_ (show ((N : Nat) : Int) ≠ 0 by omega)
        have e2 := Int.emod_lt_of_pos at_ (show 0 < ((N : Nat) : Int) by omega)
        have hwi := within_fn at_ N (by omega) (by omega)
        have hfl : ((List.map mk (atsF H j)).flatMap T.cells).length = N * 2 := by rw [flat_lenT (k := 2) _ (by (repeat (first | exact lenOk_nil | (apply lenOk_map; intro _; rfl) | apply lenOk_append | apply lenOk_take | apply lenOk_drop | (apply lenOk_cons; rfl)))), hN]
        generalize hk : at_ % (N : Int) = k at *
        have hkN : k.toNat < N := by omega
        (repeat (first | apply cn | apply cq | apply cb | apply ck | apply cl | apply cx))
        refine ca [0, 1, 2, 3, 4, 5, 6, 7, 8, 9, 10] [10] ?_
        refine a_ (fun _ => p_fr) ?_
        refine a_lo ?_
        refine a_ (fun _ => p_mv) ?_
        refine a_ (fun _ => p_fr) ?_
        refine a_lo ?_
        (first | refine a_ (fun _ => p_ln) ?_ | refine a_ (fun _ => p_lr) ?_)
        refine a_ (fun _ => p_ca (hwi)) ?_
        refine a_ (fun _ => p_mv) ?_
        (first | refine a_ (fun _ => p_ix hix) ?_ | refine a_ (fun _ => p_ix hix2) ?_ | refine a_ (fun _ => p_ia) ?_ | refine a_ (fun _ => p_ir) ?_)
        (first | refine a_ (fun _ => p_fa) ?_ | refine a_ (fun _ => p_fr) ?_)
        refine a_ss ?_ ?_
        · show 0 + k.toNat * 2 + 0 + 1 ≤ _
          rw [hfl]; omega
        apply an
        have hel : (mk n).cells = lay ((List.map mk (atsF H j))[k.toNat]'(by omega)).cells 0 [.v (.int .i64 n)] := by rw [List.getElem_map]; rfl
        refine ⟨⟨H, _, (List.map mk (atsF H j)).set k.toNat (mk n), _, ((atsF H j).map po).set k.toNat (po n), _, .slice (some ⟨b, 0, none⟩) N c2, Hp, [(b, ⟨34, ((List.map mk (atsF H j)).set k.toNat (mk n)).flatMap T.cells, c2 * 2⟩)]⟩, ⟨hop, .inr ⟨b, c2, by simp [hN], by simpa [hN] using hc, rfl⟩, pr_mks _, PR.set (mks_pair _) (by simp) rfl (mk_le n), by simp [hap, hi10], by simp [haf, hj10], (po_at H hH.2 i).1, ?_⟩, eL, ?_⟩
        · intro p hp
          rcases mem_set' hp with hp | rfl
          · exact (po_at H hH.2 j).2 p hp
          · exact hn
        · refine kK (kK (kH (.keep _ _ _ _ _ (blk_eq rfl ?_ rfl) kR)))
          have := flat_lay (kk := 2) (off := 0) (dc := [.v (.int .i64 n)]) (List.map mk (atsF H j)) k.toNat (by (repeat (first | exact lenOk_nil | (apply lenOk_map; intro _; rfl) | apply lenOk_append | apply lenOk_take | apply lenOk_drop | (apply lenOk_cons; rfl)))) (by omega) (by simp) hel
          show lay _ (0 + k.toNat * 2 + 0) _ = _
          rw [Nat.zero_add]; exact this
      · intro _
        (repeat (first | apply cn | apply cq | apply cb | apply ck | apply cl | apply cx))
        exact ⟨⟨H, _, _, _, _, _, _, Hp, Hf⟩, ⟨hop, hof, pr_mks _, pr_mks _, by simp [hap, hi10], by simp [haf, hj10], (po_at H hH.2 i).1, (po_at H hH.2 j).2⟩, eL, kK (kK kR)⟩
    intro _
    (repeat (first | apply cn | apply cq | apply cb | apply ck | apply cl | apply cx))
    apply cr
    refine s_ p_eq ?_
    refine s_ p_as ?_
    (repeat (first | apply cn | apply cq | apply cb | apply ck | apply cl | apply cx))
    refine ci ?_ ?_
    · intro _
      (repeat (first | apply cn | apply cq | apply cb | apply ck | apply cl | apply cx))
      (repeat (first | apply cn | apply cq | apply cb | apply ck | apply cl | apply cx))
      apply cr
      refine s_ p_fr ?_
      refine s_ p_lo ?_
      (first | refine s_ p_ln ?_ | refine s_ p_lr ?_)
      refine s_ p_gt ?_
      (repeat (first | apply cn | apply cq | apply cb | apply ck | apply cl | apply cx))
      refine ci ?_ ?_
      · intro hpos
        rcases hof with ⟨hx0, _, _⟩ | ⟨b, c, hb1, hc, rfl⟩
        · exfalso; simp [hx0] at hpos
        cases hb1
        have hlen : (List.map mk (atsF H j)).length = j := by simp [haf]
        generalize hN : (List.map mk (atsF H j)).length = N at *
        have e1 := Int.emod_nonneg at_ (show ((N : Nat) : Int) ≠ 0 by omega)
        have e2 := Int.emod_lt_of_pos at_ (show 0 < ((N : Nat) : Int) by omega)
        have hwi := within_fn at_ N (by omega) (by omega)
        have hw10 := within_fn n 10 (by omega) (by omega)
        have hfl : ((List.map mk (atsF H j)).flatMap T.cells).length = N * 2 := by rw [flat_lenT (k := 2) _ (by (repeat (first | exact lenOk_nil | (apply lenOk_map; intro _; rfl) | apply lenOk_append | apply lenOk_take | apply lenOk_drop | (apply lenOk_cons; rfl)))), hN]
        generalize hk : at_ % (N : Int) = k at *
        have hkN : k.toNat < N := by omega
        have hm10 : 0 ≤ n % 10 ∧ n % 10 < 10 := by omega
        generalize hM : (195 + n % 10).toNat = M
        (repeat (first | apply cn | apply cq | apply cb | apply ck | apply cl | apply cx))
        refine ca [0, 1, 2, 3, 4, 5, 6, 7, 8, 9, 10, 11, 12, 13] [13] ?_
        refine a_ (fun _ => p_fr) ?_
        refine a_lo ?_
        refine a_ (fun _ => p_mv) ?_
        refine a_ (fun _ => p_fr) ?_
        refine a_lo ?_
        (first | refine a_ (fun _ => p_ln) ?_ | refine a_ (fun _ => p_lr) ?_)
        refine a_ (fun _ => p_ca (hwi)) ?_
        refine a_ (fun _ => p_mv) ?_
        refine a_ (fun _ => p_ca (hw10)) ?_
        refine a_ (fun _ => p_ad) ?_
        refine a_ (fun _ => p_mk) ?_
        (first | refine a_ (fun _ => p_ix hix) ?_ | refine a_ (fun _ => p_ix hix2) ?_ | refine a_ (fun _ => p_ia) ?_ | refine a_ (fun _ => p_ir) ?_)
        (first | refine a_ (fun _ => p_fa) ?_ | refine a_ (fun _ => p_fr) ?_)
        refine a_ss ?_ ?_
        · show 0 + k.toNat * 2 + 1 + 1 ≤ _
          rw [hfl]; omega
        apply an
        have hel : (T.agg [.v (.int .i64 ((atsF H j)[k.toNat]'(by omega))), .sl true (List.replicate M (.v (.int .u8 0)))]).cells = lay ((List.map mk (atsF H j))[k.toNat]'(by omega)).cells 1 [.sl true (List.replicate M (.v (.int .u8 0)))] := by rw [List.getElem_map]; rfl
        refine ⟨⟨H, _, (List.map mk (atsF H j)).set k.toNat (.agg [.v (.int .i64 ((atsF H j)[k.toNat]'(by omega))), .sl true (List.replicate M (.v (.int .u8 0)))]), _, ((atsF H j).map po).set k.toNat ⟨(atsF H j)[k.toNat]'(by omega), List.replicate M 0⟩, _, .slice (some ⟨b, 0, none⟩) N c2, Hp, [(b, ⟨34, ((List.map mk (atsF H j)).set k.toNat (.agg [.v (.int .i64 ((atsF H j)[k.toNat]'(by omega))), .sl true (List.replicate M (.v (.int .u8 0)))])).flatMap T.cells, c2 * 2⟩)]⟩, ⟨hop, .inr ⟨b, c2, by simp [hN], by simpa [hN] using hc, rfl⟩, pr_mks _, PR.set (mks_pair _) (by simp) rfl (LeL.cons (Le.refl _) (LeL.cons (by rw [ebs, List.map_replicate]; exact Le.full _ _) LeL.nil)), by simp [hap, hi10], by simp [haf, hj10], (po_at H hH.2 i).1, ?_⟩, eL, ?_⟩
        · intro p hp
          rcases mem_set' hp with hp | rfl
          · exact (po_at H hH.2 j).2 p hp
          · exact (po_at H hH.2 j).2 (po _) (List.mem_map.2 ⟨_, List.getElem_mem (by omega), rfl⟩)
        · refine kK (kK (kH (.keep _ _ _ _ _ (blk_eq rfl ?_ rfl) kR)))
          have := flat_lay (kk := 2) (off := 1) (dc := [.sl true (List.replicate M (.v (.int .u8 0)))]) (List.map mk (atsF H j)) k.toNat (by (repeat (first | exact lenOk_nil | (apply lenOk_map; intro _; rfl) | apply lenOk_append | apply lenOk_take | apply lenOk_drop | (apply lenOk_cons; rfl)))) (by omega) (by simp) hel
          show lay _ (0 + k.toNat * 2 + 1) _ = _
          rw [Nat.zero_add, hM]; exact this
      · intro _
        (repeat (first | apply cn | apply cq | apply cb | apply ck | apply cl | apply cx))
        exact ⟨⟨H, _, _, _, _, _, _, Hp, Hf⟩, ⟨hop, hof, pr_mks _, pr_mks _, by simp [hap, hi10], by simp [haf, hj10], (po_at H hH.2 i).1, (po_at H hH.2 j).2⟩, eL, kK (kK kR)⟩
    intro _
    (repeat (first | apply cn | apply cq | apply cb | apply ck | apply cl | apply cx))
    exact ⟨⟨H, _, _, _, _, _, _, Hp, Hf⟩, ⟨hop, hof, pr_mks _, pr_mks _, by simp [hap, hi10], by simp [haf, hj10], (po_at H hH.2 i).1, (po_at H hH.2 j).2⟩, eL, kK (kK kR)⟩
  · rintro ⟨h, xs, ys, ps, qs, vp, vf, Hp, Hf⟩ ⟨op, of, rp, rf, np, nf, ap, af⟩
    simp only at op of rp rf np nf ap af
    have hl := lendX (h := h) op of rp rf
    have q1 := check_fn ⟨h, ps, qs⟩ (by simp only; omega) (by simp only; omega) ap af
    have q2 := rcheck_fn ⟨h, ps, qs⟩ (by simp only; omega) (by simp only; omega)
    (repeat (first | apply cn | apply cq | apply cb | apply ck | apply cl | apply cx))
    refine ca [0, 1, 2, 3, 4, 5] [] ?_
    refine a_loa ?_
    refine a_cL q1 hl perm2 ?_
    refine a_loa ?_
    refine a_cL q2 hl perm2 ?_
    refine a_ (fun _ => p_eq) ?_
    refine a_ (fun _ => p_as) ?_
    apply an
    (repeat (first | apply cn | apply cq | apply cb | apply ck | apply cl | apply cx))
    (apply sim_ret; (try simp only [blockΨ_ret, thenΨ_ret, loopL_ret, cutΨ_ret, cutE_ret]); first | refine rt ?_ | refine rn ?_)
    exact Le.of_eq (by simp [packT])
end Go.Proofs.Ythndbbjkkehjeaa
