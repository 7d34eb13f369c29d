/-
  code.Int, code.Text: a number's, a text's bytes behind others.
  Appended to a full slice: what comes back is one's own.
  replica: the members, by the log: a range over slices.Backward.
  replica: small functions of a node.
  replica: a worker: its entries' own row, what it sends.
-/
import Derived.Test.YtjbokbikkcfjjaaGreatAao
import Derived.Test.YtjbokbikkcfjjaaGreatAak
import Derived.Test.YtjbokbikkcfjjaaGreatAan
section
set_option maxRecDepth 16000
namespace Go.Proofs.YtjbokbikkcfjjaaGreat
open Go.Cap
set_option linter.unusedSimpArgs false
set_option linter.unusedVariables false
attribute [local irreducible] POp SimFrom DrawFrom EOp Sim FnH T.gp
theorem lebF_big {k u : Nat} (h : 128 ≤ u) : lebF (k + 1) u = UInt8.ofNat (u % 128 + 128) :: lebF k (u / 128) := by rw [lebF, if_pos h]
theorem lebF_small {k u : Nat} (h : u < 128) : lebF k u = [UInt8.ofNat u] := by
  cases k with
  | zero => rfl
  | succ k => rw [lebF, if_neg (by omega)]
theorem byte_more (u : Nat) : bOr .u8 (IntKind.u8.wrap ((u : Int).tmod 128)) 128 = ((UInt8.ofNat (u % 128 + 128)).toNat : Int) := by
  have key : ∀ i : Fin 128, bOr .u8 (IntKind.u8.wrap ((i.val : Nat) : Int)) 128 = ((UInt8.ofNat (i.val + 128)).toNat : Int) := by decide +kernel
  have h := key ⟨u % 128, Nat.mod_lt _ (by omega)⟩
  rw [show (u : Int).tmod 128 = ((u % 128 : Nat) : Int) from rfl]
  exact h
theorem byte_last {u : Nat} (h : u < 128) : IntKind.u8.wrap (u : Int) = ((UInt8.ofNat u).toNat : Int) := by
  have key : ∀ i : Fin 128, IntKind.u8.wrap ((i.val : Nat) : Int) = ((UInt8.ofNat i.val).toNat : Int) := by decide +kernel
  exact key ⟨u, h⟩
theorem shr_seven (u : Nat) : bShr .u64 (u : Int) 7 = ((u / 128 : Nat) : Int) := by
  unfold bShr
  rw [show min (7 : Int).toNat IntKind.u64.bits = 7 by rfl, show (2 : Int) ^ 7 = 128 by rfl, Int.fdiv_eq_ediv_of_nonneg _ (by omega)]
  omega
theorem pow_next (k : Nat) : 2 ^ (7 * (k + 1 + 1)) = 2 ^ (7 * (k + 1)) * 128 := by
  rw [show 7 * (k + 1 + 1) = 7 * (k + 1) + 7 by omega, Nat.pow_add]
theorem intB_len (n : Int) : 1 ≤ (intB n).length ∧ (intB n).length ≤ 10 := lebF_len 9 (turnF n)
structure IntS where
  k : Nat
  u : Nat
  out : List UInt8
  v : Value
  H : Heap
theorem int_fn (f : Bool) (b : List UInt8) (n : Int) (h0 : -9223372036854775808 ≤ n) (h1 : n ≤ 9223372036854775807) (hl : b.length ≤ 100000000000) : FnP Tryz.prog 164 [.sl f (b.map eb), ei n] (fun r => r = bl (b ++ intB n)) := by
  have hlen := intB_len n
  have htl := turnF_lt h0 h1
  refine fn_enter Tryz.func164 (by rfl) (by rfl) ?_
  intro S0 w0
  show Sim _ _ [(0, T.sl f (b.map eb)), (1, ei n)] _ _
  refine zC ?_
  apply cr
  refine s_ p_as ?_
  refine zC ?_
  apply cr
  refine s_ p_mv ?_
  refine e_cH (Hs := []) (Hr := []) (cloneB_fn f b (by omega)) (.refl _) (fun r H ⟨v, hr, ho⟩ => ?_)
  subst hr
  refine s_ p_as ?_
  refine zC ?_
  apply cr
  refine s_ p_mv ?_
  refine s_ (p_ca (turned_fn n h0 h1)) ?_
  refine s_ p_as ?_
  refine zC ?_
  apply sim_loopL (σ := IntS) (ok := fun s => OB s.out s.v s.H ∧ s.out ++ lebF s.k s.u = b ++ intB n ∧ s.u < 2 ^ (7 * (s.k + 1))) (env := fun s => [(6, .v (.int .u64 s.u)), (5, .v s.v)]) (heap := fun s => s.H) (μ := fun s => s.k) (s0 := ⟨9, turnF n, b, v, H⟩)
  · exact ⟨ho, rfl, by simp only; omega⟩
  · exact eL
  · rw [List.append_nil]; exact kR
  rintro ⟨k, u, out, v, H⟩ ⟨ho, he, hu⟩
  simp only at ho he hu
  show Sim _ _ [(6, .v (.int .u64 u)), (5, .v v)] H _
  have hol : out.length ≤ 100000000010 := by
    have := congrArg List.length he
    simp only [List.length_append] at this
    omega
  refine zC ?_
  apply cr
  refine s_ p_mv ?_
  refine s_ p_ge ?_
  refine zC ?_
  refine ci ?_ ?_
  · intro hge
    have hge' : 128 ≤ u := by omega
    cases k with
    | zero => exact absurd hu (by omega)
    | succ k =>
      refine zC ?_
      apply cr
      refine s_ p_mv ?_
      refine s_ p_mv ?_
      refine s_ p_re ?_
      refine s_ p_cv ?_
      refine s_ p_oor ?_
      rw [byte_more u]
      refine s_ p_bs ?_
      refine e_osA (ho := ho) (A := []) (B := []) (ys := [eb (UInt8.ofNat (u % 128 + 128))]) (f := true) (eb1 _) (fun v' Hs' ho' => ?_) (hH := by simp)
      refine s_ p_as ?_
      refine zC ?_
      apply cr
      refine s_ p_mv ?_
      refine s_ p_shr ?_
      rw [shr_seven u]
      refine s_ p_as ?_
      refine zC ?_
      refine ⟨⟨k, u / 128, out ++ [UInt8.ofNat (u % 128 + 128)], v', Hs'⟩, ⟨?_, ?_, ?_⟩, (by simp only []; omega), eL, by simp only [List.nil_append, List.append_nil]; exact kR⟩
      · simp only
        unfold OB
        rw [List.map_append]
        exact ho'
      · simp only
        rw [← he, lebF_big hge', List.append_assoc]
        rfl
      · simp only
        rw [pow_next] at hu
        exact Nat.div_lt_of_lt_mul (by omega)
  · intro hlt
    have hlt' : u < 128 := by omega
    refine zC ?_
    apply cr
    refine s_ p_mv ?_
    refine s_ p_mv ?_
    refine s_ p_cv ?_
    rw [byte_last hlt']
    refine s_ p_bs ?_
    refine e_osA (ho := ho) (A := []) (B := []) (ys := [eb (UInt8.ofNat u)]) (f := true) (eb1 _) (fun v' Hs' ho' => ?_) (hH := by simp)
    rw [lebF_small hlt'] at he
    have ho2 : OB (b ++ intB n) v' Hs' := by rw [← he]; unfold OB; rw [List.map_append]; exact ho'
    refine e_cHA (FnH.lend (G := Hs') (LendsL.cons (ho2.lend fun _ h => h) LendsL.nil) (cloneB_fnD false (b ++ intB n) (by simp only [List.length_append]; omega))) (fun r H' ⟨hr1, hr2⟩ => ?_)
    subst hr1 hr2
    refine s_ p_as ?_
    refine zC ?_
    refine zE ?_
    exact Le.refl _
theorem codeText_fn (f g : Bool) (b s : List UInt8) (hb : b.length ≤ 10000000000) (hs : s.length ≤ 10000000000) : FnP Tryz.prog 173 [.sl f (b.map eb), .sl g (s.map eb)] (fun r => r = bl (b ++ intB s.length ++ s)) := by
  have hlen := intB_len s.length
  have hi := int_fn f b (s.length : Nat) (by omega) (by omega) (by omega)
  have hc := concat_fn true [(false, b ++ intB s.length), (g, s)] (by simp [catL]; omega) (by simp)
  refine fn_enter Tryz.func173 (by rfl) (by rfl) ?_
  intro S0 w0
  show Sim _ _ [(0, T.sl f (b.map eb)), (1, T.sl g (s.map eb))] _ _
  refine zC ?_
  apply cr
  refine s_ p_as ?_
  refine zC ?_
  apply cr
  refine s_ p_mv ?_
  refine s_ p_mv ?_
  (first | refine s_ p_ln ?_ | refine s_ p_lr ?_)
  rw [List.length_map]
  refine s_ (p_ca (hi)) ?_
  refine s_ p_mv ?_
  refine s_ p_bs ?_
  refine s_ (p_ca (hc)) ?_
  refine s_ p_as ?_
  refine zC ?_
  refine zE ?_
  exact Le.of_eq (by simp [catL, bl]; rfl)
end Go.Proofs.YtjbokbikkcfjjaaGreat
end
section
namespace Go.Cap
variable {K : Ctx} {t : Env} {H : Heap} {N : Env → Heap → Prop} {ty ty' tp : TypeId} {pos : String} {aft : Array Edge} {g : Option (Nat × Bool)} {ops : Array Oper} {i : Nat} {l : List Oper} {kd : Tmp} {eff : List Nat} {pend : List Pend} {al : List (Nat × Oper)}
theorem lendG {c : Code} {Ψ : Exit → Env → Heap → Prop} {G H1 : Heap} {d : T} (k : Nat) (x : T) (hl : Lends G d x) (hp : H.Perm (G ++ H1)) (h : Sim K c ((k, x) :: t) H1 Ψ) (hg : t.get k = d := by rfl) : Sim K c t H Ψ :=
  sim_lend (G := G) (H1 := H1) [(k, x)] hp ⟨hg ▸ hl, trivial⟩ h
end Go.Cap
end
section
set_option maxRecDepth 4000
namespace Go.Proofs.YtjbokbikkcfjjaaGreat
open Go.Cap
set_option linter.unusedSimpArgs false
set_option linter.unusedVariables false
attribute [local irreducible] POp SimFrom DrawFrom EOp Sim FnH T.gp
set_option maxHeartbeats 1000000 in
theorem back_it (l : List En) (hl : l.length ≤ 4611686018427387904) : ItC Tryz.prog 124 [.adr (eens l)] (fun p : Nat × En => [ei p.1, een p.2]) (fun xs => xs = down l l.length) (fun pre => ∃ k, k ≤ l.length ∧ pre = down l k) := by
  refine it_enter Tryz.func124 (by rfl) (by rfl) (by rfl) ?_
  intro c l' r I Ix Hx S w hlen _ _ hK h0 hY
  show Sim _ _ [(Tryz.f124.ntmps, .v undef), (0, .v (.func (.yield l') #[] #[])), (1, .adr (.sl false (l.map een)))] _ _
  refine zC ?_
  apply cr
  (first | refine s_ p_ld ?_ | refine s_ p_lo ?_)
  (first | refine s_ p_ln ?_ | refine s_ p_lr ?_)
  refine s_ p_su ?_
  refine s_ p_as ?_
  refine zC ?_
  apply sim_loopL (σ := Nat × Heap) (ok := fun s => s.1 ≤ l.length ∧ I (down l s.1) s.2) (env := fun s => [(3, .v (.int .i64 ((l.length : Int) - 1 - s.1))), (Tryz.f124.ntmps, .v undef), (0, .v (.func (.yield l') #[] #[])), (1, .adr (.sl false (l.map een)))])
    (heap := fun s => s.2) (μ := fun s => l.length - s.1) (s0 := (0, Hx))
  · exact ⟨by simp, h0⟩
  · refine ⟨?_, eL⟩
    apply le_get; ((repeat (apply gS; rfl)); exact gZ)
    exact Le.of_eq (by simp)
  · exact kR
  rintro ⟨k, H⟩ ⟨hk, hI⟩
  simp only at hk hI
  refine zC ?_
  apply cr
  refine s_ p_mv ?_
  refine s_ p_ge ?_
  refine zC ?_
  refine ci ?_ ?_
  · intro hge
    have hix : l.length - 1 - k < l.length := by omega
    have hcast : (l.length : Int) - 1 - k = ((l.length - 1 - k : Nat) : Int) := by omega
    rw [hcast]
    have hget : l.getD (l.length - 1 - k) default = l[l.length - 1 - k] := by simp [hix]
    have hyc := hY (down l k) (l.length - 1 - k, l[l.length - 1 - k]) H hI ⟨k + 1, by omega, by rw [down_succ, hget]⟩
    refine zC ?_
    apply cr
    refine s_ p_mv ?_
    refine s_ p_mv ?_
    (first | refine s_ p_ld ?_ | refine s_ p_lo ?_)
    refine s_ p_mv ?_
    (first | refine s_ (p_ix hix) ?_ | refine s_ (p_ix hix2) ?_ | refine s_ p_ia ?_ | refine s_ p_ir ?_)
    (first | refine s_ p_la ?_ | refine s_ p_loa ?_)
    refine e_yi (Hr := []) hyc (by simp) (hlen _) hK (fun H' hI' => ?_) (fun H' hI' => ?_)
    · simp only [if_true] at hI'
      refine s_ p_no ?_
      refine zC ?_
      refine ci ?_ ?_
      · intro h; exact absurd trivial h
      intro _
      refine zC ?_
      apply cr
      refine s_ p_mv ?_
      refine s_ p_su ?_
      refine s_ p_as ?_
      refine zC ?_
      refine ⟨(k + 1, H'), ⟨by simp only; omega, ?_⟩, (by simp only []; omega), ⟨?_, eL⟩, by rw [List.append_nil]; exact kR⟩
      · simp only
        rw [down_succ, hget]; exact hI'
      · apply le_get; ((repeat (apply gS; rfl)); exact gZ)
        exact Le.of_eq (by congr 2; simp only; omega)
    · simp only [Bool.false_eq_true, if_false] at hI'
      refine s_ p_no ?_
      refine zC ?_
      refine ci ?_ ?_
      · intro _
        refine zC ?_
        apply sim_ret
        simp only [blockΨ_ret, thenΨ_ret, loopL_ret]
        rw [List.append_nil]
        exact it_stop ⟨k + 1, by omega, by rw [down_succ, hget]⟩ hI'
      · intro h; exact absurd (fun h => h) h
  · intro hge
    have hk2 : k = l.length := by omega
    subst hk2
    refine zC ?_
    exact it_doneN rfl hI
theorem back_fn (f : Bool) (xs : List T) : FnP Tryz.prog 90 [.sl f xs] (fun r => r = .clo 124 [] [.adr (.sl f xs)]) := by
  refine fn_enter Tryz.func90 (by rfl) (by rfl) ?_
  intro S0 w0
  show Sim _ _ [(0, T.sl f xs)] _ _
  refine zC ?_
  apply cr
  refine e_b1 fun b1 _ => ?_
  refine s_ p_as ?_
  refine zC ?_
  apply cr
  refine s_ p_mf ?_
  refine s_ p_as ?_
  refine zC ?_
  refine sim_lend (G := [_]) (H1 := []) [(2, .clo 124 [] [.adr (.sl f xs)])] (by simp; rfl) ⟨?_, trivial⟩ ?_
  · refine (show Env.get _ _ = _ from gZ) ▸ Lends.clo LendsL.nil (LendsL.cons (Lends.ptr List.mem_cons_self (.inl rfl) ?_ (by simp [T.cells]) (by simp [T.cells])) LendsL.nil)
    exact LendsL.le (LeL.refl _)
  · refine zE ?_
    exact Le.refl _
theorem down_mem {l : List En} {k : Nat} (hk : k ≤ l.length) {p : Nat × En} (h : p ∈ down l k) : p.1 < l.length := by
  obtain ⟨j, hj, rfl⟩ := List.mem_map.1 h
  have := List.mem_range.1 hj
  simp only; omega
theorem down_split {l : List En} {k : Nat} (hk : k ≤ l.length) {ini : List (Nat × En)} {last : Nat × En} (h : ini ++ [last] = down l k) (hz : ∀ p ∈ ini, p.2.conf = 0) (hl : last.2.conf ≠ 0) : lc l l.length = some (last.1, last.2.conf) := by
  cases k with
  | zero => simp [down] at h
  | succ k =>
    rw [down_succ] at h
    obtain ⟨h1, h2⟩ := List.append_inj' h rfl
    have h3 : last = (l.length - 1 - k, l.getD (l.length - 1 - k) default) := by simpa using h2
    rw [lc_down l (l.length - k) k (by omega) (by rw [← h1]; exact hz)]
    have e : l.length - k = (l.length - 1 - k) + 1 := by omega
    rw [e, lc]
    rw [h3] at hl
    simp only at hl
    rw [if_pos hl, h3]
set_option maxHeartbeats 4000000 in
theorem conf_fn (n : Nd) (hl : n.log.length ≤ 1000000000) (hb1 : -1000000000000 ≤ n.base) (hb2 : n.base ≤ 1000000000000) : FnP Tryz.prog 64 [.adr (nd n)] (fun r => r = .tup [ei (confF n).1, ei (confF n).2]) := by
  have cbk := back_fn false (n.log.map een)
  refine fn_enter Tryz.func64 (by rfl) (by rfl) ?_
  intro S0 w0
  show Sim _ _ [(0, T.adr (.agg (nodeC n (.sl false (n.log.map een)))))] _ _
  refine zC ?_
  apply cr
  refine e_b1 fun b1 _ => ?_
  refine e_al fun b2 _ => ?_
  refine e_al fun b3 _ => ?_
  refine zC ?_
  apply cr
  refine s_ p_lo ?_
  refine s_ p_nc ?_
  (first | refine s_ p_fa ?_ | refine s_ p_fr ?_)
  (first | refine s_ p_ld ?_ | refine s_ p_lo ?_)
  refine s_ (p_ca (cbk)) ?_
  refine zC ?_
  refine sim_range (back_it n.log (by omega)) (by ((repeat (apply eS; rfl)); exact eZ)) (by rfl) rfl (fun (pre : List (Nat × En)) (H : Heap) => (∀ p ∈ pre, p.2.conf = 0) ∧ H = [(b3, ⟨3, [ei 0], 1⟩), (b2, ⟨3, [ei 0], 1⟩), (b1, ⟨147, [.adr (.agg (nodeC n (.sl false (n.log.map een))))], 1⟩)])
    (fun (pre : List (Nat × En)) (H : Heap) => ∃ ini last, pre = ini ++ [last] ∧ (∀ p ∈ ini, p.2.conf = 0) ∧ last.2.conf ≠ 0 ∧ H = [(b3, ⟨3, [ei last.2.conf], 1⟩), (b2, ⟨3, [ei (n.base + last.1 + 1)], 1⟩), (b1, ⟨147, [.adr (.agg (nodeC n (.sl false (n.log.map een))))], 1⟩)])
    .ret .ret (.inl ⟨rfl, rfl⟩) (fun _ => rfl) (by rfl) ⟨by simp, rfl⟩ ?_ ?_ ?_
  · rintro pre x H1 ⟨hz, rfl⟩ ⟨k, hk, hsp⟩ l' S1 w1
    have hx1 : x.1 < n.log.length := down_mem hk (by rw [← hsp]; simp)
    simp only [putPs]
    refine zC ?_
    apply cr
    refine s_ p_as ?_
    refine zC ?_
    apply cr
    refine e_al fun b5 _ => ?_
    refine e_st ?_
    refine zC ?_
    refine ⟨rfl, fun S2 w2 mk => ?_⟩
    refine zC ?_
    apply cr
    refine s_ p_fr ?_
    refine s_ p_lo ?_
    refine s_ p_ne ?_
    refine zC ?_
    refine ci ?_ ?_
    · intro hne
      refine zC ?_
      refine ca [0, 1, 2, 3, 4, 5, 6, 7, 8, 9, 10] [9, 10] ?_
      refine a_lo ?_
      refine a_ (fun _ => p_nc) ?_
      (first | refine a_ (fun _ => p_fa) ?_ | refine a_ (fun _ => p_fr) ?_)
      (first | refine a_ (fun _ => p_ld) ?_ | refine a_lo ?_)
      refine a_ (fun _ => p_mv) ?_
      refine a_ (fun _ => p_ad) ?_
      refine a_ (fun _ => p_ad) ?_
      refine a_ (fun _ => p_fr) ?_
      refine a_lo ?_
      refine a_st ?_
      refine a_st ?_
      apply an
      refine zC ?_
      refine zC ?_
      apply sim_ret
      simp only [blockΨ_ret, thenΨ_ret]
      exact ⟨_, kS kR, .inr ⟨rfl, pre, x, rfl, hz, hne, rfl⟩⟩
    · intro he
      refine zC ?_
      exact ⟨_, kS kR, .inl ⟨rfl, by intro p hp; rcases List.mem_append.1 hp with h | h; exact hz p h; rw [List.mem_singleton.1 h]; simpa using he, rfl⟩⟩
  · rintro xs H' rfl ⟨hz, rfl⟩
    have hlc : lc n.log n.log.length = none := by rw [lc_down n.log 0 n.log.length (by omega) hz]; rfl
    refine zC ?_
    refine zC ?_
    refine ca [0, 1, 2, 3, 4, 5, 6, 7, 8, 9] [8, 9] ?_
    refine a_lo ?_
    refine a_ (fun _ => p_nc) ?_
    (first | refine a_ (fun _ => p_fa) ?_ | refine a_ (fun _ => p_fr) ?_)
    (first | refine a_ (fun _ => p_ld) ?_ | refine a_lo ?_)
    refine a_lo ?_
    refine a_ (fun _ => p_nc) ?_
    (first | refine a_ (fun _ => p_fa) ?_ | refine a_ (fun _ => p_fr) ?_)
    (first | refine a_ (fun _ => p_ld) ?_ | refine a_lo ?_)
    refine a_st ?_
    refine a_st ?_
    apply an
    refine zC ?_
    refine zC ?_
    refine zE ?_
    simp only [confF, hlc]; exact Le.refl _
  · rintro pre H' ⟨k, hk, rfl⟩ ⟨ini, last, h1, hz, hne, rfl⟩
    have hlc := down_split hk h1.symm hz hne
    simp only [blockΨ_ret, thenΨ_ret]
    refine rt ?_
    simp only [confF, hlc]; exact Le.refl _
end Go.Proofs.YtjbokbikkcfjjaaGreat
end
section
set_option maxRecDepth 4000
namespace Go.Proofs.YtjbokbikkcfjjaaGreat
open Go.Cap
set_option linter.unusedSimpArgs false
set_option linter.unusedVariables false
attribute [local irreducible] POp SimFrom DrawFrom EOp Sim FnH T.gp
-- how many of five bits
def ones (x : Int) : Int := ((List.range 5).filter x.toNat.testBit).length
def isF (conf id : Int) : Bool := conf.toNat.testBit id.toNat
def andI (a b : Int) : Int := (a.toNat &&& b.toNat : Nat)
def mostF (conf some : Int) : Bool := decide (ones conf < 2 * ones (andI conf some))
def newF (id conf : Int) : Nd := ⟨id, 0, -1, 0, 0, conf, [], [], 0, 0, 0, 0, .all 0, .all 0⟩
def termF (n : Nd) (i : Int) : Int := if n.base + 1 ≤ i ∧ i < n.base + 1 + n.log.length then (n.log.getD (i - n.base - 1).toNat default).term else n.baseTerm
def lastF (n : Nd) : Int := n.base + n.log.length
theorem fin32 {x : Int} (h0 : 0 ≤ x) (h1 : x ≤ 31) : ∃ i : Fin 32, x = (i.val : Int) := ⟨⟨x.toNat, by omega⟩, by simp only; omega⟩
theorem lend1 {K : Ctx} {t : Env} {b m : Nat} {e : TypeId} {cs : List T} {H1 : Heap} {Ψ : Exit → Env → Heap → Prop} {c : Code} (k : Nat) (hl : 0 < cs.length) (h : Sim K c ((k, .adr (.agg cs)) :: t) H1 Ψ) (hg : t.get k = .v (.pointer (some ⟨b, 0, none⟩)) := by rfl) : Sim K c t ((b, ⟨e, cs, m⟩) :: H1) Ψ := by
  have hcs : (T.agg cs).cells = cs := by simp [T.cells]
  refine sim_lend (G := [_]) (H1 := H1) [(k, .adr (.agg cs))] (by simp; rfl) ⟨?_, trivial⟩ h
  rw [hg]
  refine Lends.ptr List.mem_cons_self (.inr ⟨_, rfl⟩) ?_ (by rwa [hcs]) (by rw [hcs]; exact Nat.le_refl _)
  rw [hcs]
  exact LendsL.le (by rw [List.take_length]; exact LeL.refl _)
theorem all32 {p : Int → Prop} (h : ∀ i : Fin 32, p (i.val : Int)) {x : Int} (h0 : 0 ≤ x) (h1 : x ≤ 31) : p x := by
  obtain ⟨i, rfl⟩ := fin32 h0 h1; exact h i
theorem wrap32 {x : Int} (h0 : 0 ≤ x) (h1 : x ≤ 31) : IntKind.u64.wrap x = x := all32 (p := fun x => IntKind.u64.wrap x = x) (by decide) h0 h1
theorem ones_bd {x : Int} (h0 : 0 ≤ x) (h1 : x ≤ 31) : 0 ≤ ones x ∧ ones x ≤ 5 := all32 (p := fun x => 0 ≤ ones x ∧ ones x ≤ 5) (by decide) h0 h1
theorem and_bd {x y : Int} (h0 : 0 ≤ x) (h1 : x ≤ 31) (h2 : 0 ≤ y) (h3 : y ≤ 31) : bAnd .i64 x y = andI x y ∧ 0 ≤ andI x y ∧ andI x y ≤ 31 :=
  all32 (p := fun x => bAnd .i64 x y = andI x y ∧ 0 ≤ andI x y ∧ andI x y ≤ 31) (fun i => all32 (p := fun y => bAnd .i64 i y = andI i y ∧ 0 ≤ andI i y ∧ andI i y ≤ 31) (by revert i; decide) h2 h3) h0 h1
theorem is_eq {x y : Int} (h0 : 0 ≤ x) (h1 : x ≤ 31) (h2 : 0 ≤ y) (h3 : y < 5) : decide (bAnd .i64 (bShr .i64 x y) 1 = 1) = isF x y :=
  all32 (p := fun x => decide (bAnd .i64 (bShr .i64 x y) 1 = 1) = isF x y) (fun i => all32 (p := fun y => decide (bAnd .i64 (bShr .i64 i y) 1 = 1) = isF i y) (by revert i; decide) h2 (by omega)) h0 h1
theorem ones64_fn (x : Int) (h0 : 0 ≤ x) (h1 : x ≤ 31) : FnP Tryz.prog 150 [.v (.int .u64 x)] (fun r => r = ei (ones x)) := by
  refine fn_enter Tryz.func150 (by rfl) (by rfl) ?_
  intro S0 w0
  show Sim _ _ [(0, T.v (.int .u64 x))] _ _
  refine zC ?_
  apply cr
  refine s_ p_as ?_
  refine zC ?_
  apply cr
  refine s_ p_mv ?_
  refine s_ p_shr ?_
  refine s_ p_and ?_
  refine s_ p_mv ?_
  refine s_ p_and ?_
  refine s_ p_adw ?_
  refine s_ p_as ?_
  refine zC ?_
  apply cr
  refine s_ p_mv ?_
  refine s_ p_shr ?_
  refine s_ p_and ?_
  refine s_ p_mv ?_
  refine s_ p_and ?_
  refine s_ p_adw ?_
  refine s_ p_as ?_
  refine zC ?_
  apply cr
  refine s_ p_mv ?_
  refine s_ p_shr ?_
  refine s_ p_mv ?_
  refine s_ p_adw ?_
  refine s_ p_and ?_
  refine s_ p_as ?_
  refine zC ?_
  apply cr
  refine s_ p_mv ?_
  refine s_ p_mv ?_
  refine s_ p_shr ?_
  refine s_ p_adw ?_
  refine s_ p_as ?_
  refine zC ?_
  apply cr
  refine s_ p_mv ?_
  refine s_ p_mv ?_
  refine s_ p_shr ?_
  refine s_ p_adw ?_
  refine s_ p_as ?_
  refine zC ?_
  apply cr
  refine s_ p_mv ?_
  refine s_ p_mv ?_
  refine s_ p_shr ?_
  refine s_ p_adw ?_
  refine s_ p_as ?_
  refine zC ?_
  apply cr
  refine s_ p_mv ?_
  refine s_ p_cv ?_
  refine s_ p_and ?_
  refine s_ p_as ?_
  refine zC ?_
  refine zE ?_
  obtain ⟨i, rfl⟩ := fin32 h0 h1
  refine Le.of_eq (congrArg (fun z => T.v (.int .i64 z)) ?_)
  revert i; decide
theorem ones_fn (x : Int) (h0 : 0 ≤ x) (h1 : x ≤ 31) : FnP Tryz.prog 109 [.v (.int .u64 x)] (fun r => r = ei (ones x)) := by
  have h64 := ones64_fn x h0 h1
  refine fn_enter Tryz.func109 (by rfl) (by rfl) ?_
  intro S0 w0
  show Sim _ _ [(0, T.v (.int .u64 x))] _ _
  refine zC ?_
  apply cr
  refine s_ p_as ?_
  refine zC ?_
  refine ci (p := False) (fun h => h.elim) (fun _ => ?_) (by rfl)
  refine zC ?_
  apply cr
  refine s_ p_mv ?_
  refine s_ (p_ca (h64)) ?_
  refine s_ p_as ?_
  refine zC ?_
  refine zE ?_
  exact Le.refl _
def big : Int := 1000000000000
theorem new_fn (id conf : Int) (h0 : 0 ≤ id) (h1 : id < 5) (h2 : 0 ≤ conf) (h3 : conf ≤ 31) : FnP Tryz.prog 66 [ei id, ei conf] (fun r => r = nd (newF id conf)) := by
  refine fn_enter Tryz.func66 (by rfl) (by rfl) ?_
  intro S0 w0
  show Sim _ _ [(0, ei id), (1, ei conf)] _ _
  have ht : id.tmod 5 = id := Int.tmod_eq_of_lt h0 h1
  have ht2 : (id.tmod 5 + 5).tmod 5 = id := by rw [ht, Int.tmod_eq_emod_of_nonneg (by omega)]; omega
  have hc : bAnd .i64 conf 31 = conf := all32 (p := fun x => bAnd .i64 x 31 = x) (by decide) h2 h3
  refine zC ?_
  apply cr
  refine e_al fun b4 _ => ?_
  refine zC ?_
  apply cr
  refine s_ p_mv ?_
  refine s_ p_re ?_
  refine s_ p_ad ?_
  refine s_ p_re ?_
  refine s_ p_mv ?_
  refine s_ p_and ?_
  refine s_ (p_bd 22 [_, _, _, _, _, _, _, _, _, _, _, _, _, _, _, _, _, _, _, _, _, _]) ?_
  refine e_st ?_
  refine zC ?_
  refine zE ?_
  simp only [ht2, hc]
  show Le (.agg _) (.agg (nodeC _ _))
  (first | exact Le.refl _ | exact Le.nil _ | exact Le.full _ _ | exact Le.any _ | (apply Le.agg; (repeat (apply LeL.cons; (first | exact Le.refl _ | exact Le.nil _ | exact Le.full _ _ | exact Le.any _))); exact LeL.nil) | (apply Le.tup; (repeat (apply LeL.cons; (first | exact Le.refl _ | exact Le.nil _ | exact Le.full _ _ | exact Le.any _ | (apply Le.agg; (repeat (apply LeL.cons; (first | exact Le.refl _ | exact Le.nil _ | exact Le.full _ _ | exact Le.any _))); exact LeL.nil)))); exact LeL.nil))
theorem is_fn (conf id : Int) (h0 : 0 ≤ id) (h1 : id < 5) (h2 : 0 ≤ conf) (h3 : conf ≤ 31) : FnP Tryz.prog 107 [ei conf, ei id] (fun r => r = eB (isF conf id)) := by
  refine fn_enter Tryz.func107 (by rfl) (by rfl) ?_
  intro S0 w0
  show Sim _ _ [(0, ei conf), (1, ei id)] _ _
  have hw := wrap32 h0 (by omega)
  refine zC ?_
  apply cr
  refine s_ p_as ?_
  refine zC ?_
  apply cr
  refine s_ p_mv ?_
  refine s_ p_mv ?_
  refine s_ p_cv ?_
  refine s_ p_shr ?_
  refine s_ p_and ?_
  refine s_ p_eq ?_
  refine s_ p_as ?_
  refine zC ?_
  refine zE ?_
  rw [wrap32 h0 (by omega), is_eq h2 h3 h0 h1]
  exact Le.refl _
theorem most_fn (conf some : Int) (h0 : 0 ≤ some) (h1 : some ≤ 31) (h2 : 0 ≤ conf) (h3 : conf ≤ 31) : FnP Tryz.prog 146 [ei conf, ei some] (fun r => r = eB (mostF conf some)) := by
  have hb := and_bd h2 h3 h0 h1
  have o1 := ones_fn (andI conf some) hb.2.1 hb.2.2
  have o2 := ones_fn conf h2 h3
  have l1 := ones_bd hb.2.1 hb.2.2
  have l2 : ones (IntKind.u64.wrap (bAnd .i64 conf some)) = ones (andI conf some) := by rw [hb.1, wrap32 hb.2.1 hb.2.2]
  have w1 := wrap32 hb.2.1 hb.2.2
  have w2 := wrap32 h2 h3
  rw [← w1, ← hb.1, l2] at o1
  rw [← w2] at o2
  refine fn_enter Tryz.func146 (by rfl) (by rfl) ?_
  intro S0 w0
  show Sim _ _ [(0, ei conf), (1, ei some)] _ _
  refine zC ?_
  apply cr
  refine s_ p_as ?_
  refine zC ?_
  apply cr
  refine s_ p_mv ?_
  refine s_ p_mv ?_
  refine s_ p_and ?_
  refine s_ p_cv ?_
  refine s_ (p_ca (o1)) ?_
  refine s_ p_mu ?_
  refine s_ p_mv ?_
  refine s_ p_cv ?_
  refine s_ (p_ca (o2)) ?_
  refine s_ p_gt ?_
  refine s_ p_as ?_
  refine zC ?_
  refine zE ?_
  rw [w2]
  exact Le.refl _
theorem term_fn (n : Nd) (i : Int) (hl : n.log.length ≤ 1000000000) (hb1 : -big ≤ n.base) (hb2 : n.base ≤ big) (hi1 : -big ≤ i) (hi2 : i ≤ big) : FnP Tryz.prog 110 [.adr (nd n), ei i] (fun r => r = ei (termF n i)) := by
  refine fn_enter Tryz.func110 (by rfl) (by rfl) ?_
  intro S0 w0
  show Sim _ _ [(0, T.adr (.agg (nodeC n (.sl false (n.log.map een))))), (1, ei i)] _ _
  simp only [big] at hb1 hb2 hi1 hi2
  refine zC ?_
  apply cr
  refine s_ p_as ?_
  refine zC ?_
  apply cr
  refine s_ p_mv ?_
  refine s_ p_mv ?_
  refine s_ p_nc ?_
  (first | refine s_ p_fa ?_ | refine s_ p_fr ?_)
  (first | refine s_ p_ld ?_ | refine s_ p_lo ?_)
  refine s_ p_su ?_
  refine s_ p_su ?_
  refine s_ p_as ?_
  refine zC ?_
  apply cr
  refine s_ p_mv ?_
  refine s_ p_ge ?_
  refine s_ p_mv ?_
  refine gT (fun hg => p_mv) ?_
  refine gT (fun hg => p_mv) ?_
  refine gT (fun hg => p_nc (hx := u_ hg)) ?_
  (first | refine gT (fun hg => p_fa (hx := u_ hg)) ?_ | refine gT (fun hg => p_fr (hx := u_ hg)) ?_)
  (first | refine gT (fun hg => p_ld (hx := u_ hg)) ?_ | refine gT (fun hg => p_lo (hx := u_ hg)) ?_)
  (first | refine gT (fun hg => p_ln (hx := u_ hg)) ?_ | refine gT (fun hg => p_lr (hx := u_ hg)) ?_)
  refine gT (fun hg => p_lt (hx := u_ hg) (hy := u_ hg)) ?_
  refine s_ p_an ?_
  refine zC ?_
  refine ci ?_ ?_
  · intro hc
    simp only [List.length_map] at hc
    refine zC ?_
    apply cr
    refine s_ p_mv ?_
    refine s_ p_nc ?_
    (first | refine s_ p_fa ?_ | refine s_ p_fr ?_)
    (first | refine s_ p_ld ?_ | refine s_ p_lo ?_)
    refine s_ p_mv ?_
    (first | refine s_ (p_ix hix) ?_ | refine s_ (p_ix hix2) ?_ | refine s_ p_ia ?_ | refine s_ p_ir ?_)
    (first | refine s_ p_fa ?_ | refine s_ p_fr ?_)
    (first | refine s_ p_ld ?_ | refine s_ p_lo ?_)
    refine s_ p_as ?_
    refine zC ?_
    refine zE ?_
    rw [termF, if_pos (by omega)]
    exact Le.refl _
  · intro hc
    simp only [List.length_map] at hc
    refine zC ?_
    apply cr
    refine s_ p_mv ?_
    refine s_ p_nc ?_
    (first | refine s_ p_fa ?_ | refine s_ p_fr ?_)
    (first | refine s_ p_ld ?_ | refine s_ p_lo ?_)
    refine s_ p_as ?_
    refine zC ?_
    refine zE ?_
    rw [termF, if_neg (by omega)]
    exact Le.refl _
theorem last_fn (n : Nd) (hl : n.log.length ≤ 1000000000) (hb1 : -100000000000 ≤ n.base) (hb2 : n.base ≤ 100000000000) : FnP Tryz.prog 143 [nd n] (fun r => r = .tup [ei (lastF n), ei (termF n (lastF n))]) := by
  have ht := term_fn n (lastF n) hl (by simp only [big]; omega) (by simp only [big]; omega) (by simp only [big, lastF]; omega) (by simp only [big, lastF]; omega)
  have hlf : lastF n = n.base + ((n.log.map een).length : Nat) := by simp [lastF]
  rw [hlf] at ht ⊢
  refine fn_enter Tryz.func143 (by rfl) (by rfl) ?_
  intro S0 w0
  show Sim _ _ [(0, T.agg (nodeC n (.sl false (n.log.map een))))] _ _
  refine zC ?_
  apply cr
  refine e_bx fun b1 _ => ?_
  refine s_ p_as ?_
  refine s_ p_as ?_
  refine zC ?_
  refine lend1 1 (by simp [nodeC]) ?_
  refine zC ?_
  apply cr
  refine s_ p_fa ?_
  refine s_ p_ld ?_
  refine s_ p_fa ?_
  refine s_ p_ld ?_
  (first | refine s_ p_ln ?_ | refine s_ p_lr ?_)
  refine s_ p_ad ?_
  refine s_ p_as ?_
  refine zC ?_
  apply cr
  refine s_ p_mv ?_
  refine s_ p_mv ?_
  refine s_ (p_ca (ht)) ?_
  refine s_ p_as ?_
  refine s_ p_as ?_
  refine zC ?_
  refine zE ?_
  exact Le.refl _
theorem Conf_fn (n : Nd) (hl : n.log.length ≤ 1000000000) (hb1 : -1000000000000 ≤ n.base) (hb2 : n.base ≤ 1000000000000) : FnP Tryz.prog 32 [nd n] (fun r => r = ei (confF n).2) := by
  have ht := conf_fn n hl hb1 hb2
  refine fn_enter Tryz.func32 (by rfl) (by rfl) ?_
  intro S0 w0
  show Sim _ _ [(0, T.agg (nodeC n (.sl false (n.log.map een))))] _ _
  refine zC ?_
  apply cr
  refine e_bx fun b1 _ => ?_
  refine s_ p_as ?_
  refine zC ?_
  refine lend1 1 (by simp [nodeC]) ?_
  refine zC ?_
  apply cr
  refine s_ (p_ca (ht)) ?_
  refine s_ p_mv ?_
  refine s_ p_ex ?_
  refine s_ p_ex ?_
  refine s_ p_as ?_
  refine s_ p_as ?_
  refine zC ?_
  apply cr
  refine s_ p_mv ?_
  refine s_ p_as ?_
  refine zC ?_
  refine zE ?_
  exact Le.refl _
end Go.Proofs.YtjbokbikkcfjjaaGreat
end
section
set_option maxRecDepth 4000
namespace Go.Proofs.YtjbokbikkcfjjaaGreat
open Go.Cap
set_option linter.unusedSimpArgs false
set_option linter.unusedVariables false
attribute [local irreducible] POp SimFrom DrawFrom EOp Sim FnH T.gp
def tE : TypeId := 84
def tM : TypeId := 76
def tW : TypeId := 167
def OE (l : List En) (v : Value) (Hs : Heap) : Prop := OSl tE 3 (l.map een) v Hs
def OM (l : List Ms) (v : Value) (Hs : Heap) : Prop := OSl tM 11 (l.map ms) v Hs
theorem een3 (l : List En) : ∀ x ∈ l.map een, x.cells.length = 3 := zk
theorem een_ok (l : List En) : ∀ x ∈ l.map een, x.solid := solid_map _ (fun _ => .inr ⟨_, rfl⟩) _
theorem ms11 (l : List Ms) : ∀ x ∈ l.map ms, x.cells.length = 11 := zk
theorem ms_ok (l : List Ms) : ∀ x ∈ l.map ms, x.solid := solid_map _ (fun _ => .inr ⟨_, rfl⟩) _
theorem een_plain : ∀ (l : List En), ((l.map een).flatMap T.cells).all T.isV = true
  | [] => rfl
  | e :: l => by simp only [List.map_cons, List.flatMap_cons, List.all_append, een_plain l, Bool.and_true]; rfl
theorem OE.plain {l : List En} {v : Value} {Hs : Heap} (h : OE l v Hs) : ∀ p ∈ Hs, p.2.vals.all T.isV = true := by
  rcases h with ⟨_, _, rfl⟩ | ⟨b, c, _, _, rfl⟩
  · simp
  · intro p hp
    rw [List.mem_singleton.1 hp]
    exact een_plain l
theorem OE.len {l : List En} {v : Value} {Hs : Heap} (h : OE l v Hs) : ∃ p c, v = .slice p (l.map een).length c := OSl.len h
theorem OM.len {l : List Ms} {v : Value} {Hs : Heap} (h : OM l v Hs) : ∃ p c, v = .slice p (l.map ms).length c := OSl.len h
theorem OE.cap {l : List En} {p : Option Addr} {n c : Nat} {Hs : Heap} (h : OE l (.slice p n c) Hs) : n ≤ c := OSl.cap h
theorem OE.lend {l : List En} {v : Value} {Hs G : Heap} (h : OE l v Hs) (hG : ∀ p ∈ Hs, p ∈ G) : Lends G (.v v) (.sl false (l.map een)) := OSl.lend h hG (een3 l) (een_ok l)
theorem OM.lend {l : List Ms} {v : Value} {Hs G : Heap} (h : OM l v Hs) (hG : ∀ p ∈ Hs, p ∈ G) : Lends G (.v v) (mss l) := OSl.lend h hG (ms11 l) (ms_ok l)
theorem clone_fn (f : Bool) (l : List En) (hl : l.length ≤ 1000000000) : FnH Tryz.prog 72 [.sl f (l.map een)] [] (fun r H => ∃ v, r = .v v ∧ OE l v H) := by
  refine fn_enter Tryz.func72 (by rfl) (by rfl) ?_
  intro S0 w0
  show Sim _ _ [(0, T.sl f (l.map een))] _ _
  refine zC ?_
  apply cr
  refine s_ p_as ?_
  refine zC ?_
  apply cr
  refine s_ p_mv ?_
  refine from_name 3 fun p c h1 _ => ?_
  refine s_ p_en ?_
  refine zC ?_
  refine ci ?_ ?_
  · intro hp
    have := h1 hp
    have : l = [] := by simpa using this
    subst this
    refine zC ?_
    apply cr
    refine s_ p_as ?_
    refine zC ?_
    refine zR ?_
    exact rh kR ⟨_, rfl, osl_nil⟩ (Le.refl _)
  · intro hp
    refine zC ?_
    apply cr
    refine s_ p_bs ?_
    refine from_name 5 fun q c' _ h2 => ?_
    have := h2 rfl
    subst this
    cases l with
    | nil =>
      refine s_ p_mv ?_
      refine s_ (p_ap0 (hxl := Le.slice0 q true)) ?_
      refine from_name 7 fun q c' _ h2 => ?_
      have := h2 rfl
      subst this
      refine s_ p_as ?_
      refine zC ?_
      refine zR ?_
      exact rh kR ⟨_, rfl, osl_nil'⟩ (Le.refl _)
    | cons e l =>
      refine s_ p_mv ?_
      refine e_os (ho := (osl_nil' : OSl tE 3 [] _ [])) (A := []) (B := []) (fun _ h => nomatch h) (fun v' Hs' ho => ?_)
      refine s_ p_as ?_
      refine zC ?_
      refine zR ?_
      exact rh kR ⟨_, rfl, by simpa [OE] using ho⟩ (Le.refl _)
def SlE (G : Heap) (l : List En) (v : Value) : Prop := ∃ p c, v = .slice p l.length c ∧ l.length ≤ c ∧ Lends G (.v v) (.sl false (l.map een))
theorem OE.sle {l : List En} {v : Value} {Hs G : Heap} (h : OE l v Hs) (hG : ∀ p ∈ Hs, p ∈ G) : SlE G l v := by
  obtain ⟨p, c, rfl⟩ := h.len
  exact ⟨p, c, by simp, by simpa using h.cap, h.lend hG⟩
theorem SlE.sub {G : Heap} {l : List En} {p : Option Addr} {n c : Nat} (h : SlE G l (.slice p n c)) {lo hi : Nat} (h1 : lo ≤ hi) (h2 : hi ≤ l.length) : SlE G ((l.drop lo).take (hi - lo)) (subV 3 p c lo (hi - lo)) := by
  obtain ⟨p', c', e, hc, hl⟩ := h
  cases e
  have h3 := Lends.sub (P := Tryz.prog) (ty := 41) hl (zk) h1 (by simpa using h2) (by simp) hc
  have hlen : ((l.drop lo).take (hi - lo)).length = hi - lo := by simp; omega
  exact ⟨p.map fun a => if c = lo then a else a.add (lo * 3), c - lo, by rw [hlen]; rfl, by rw [hlen]; omega, by rw [List.map_take, List.map_drop]; exact h3⟩
abbrev FnP' (P : Program) (f : FuncId) (args : List T) (H : Heap) (d : T) : Prop := FnH P f args H fun r H' => H' = [] ∧ r = d
def wkC (n : Nd) (vl vo : Value) : List T := nodeC n (.v vl) ++ [.v vo]
def WkH (b : Nat) (n : Nd) (out : List Ms) (H : Heap) : Prop := ∃ vl vo Hl Ho, OE n.log vl Hl ∧ OM out vo Ho ∧ H = (b, ⟨tW, wkC n vl vo, 23⟩) :: (Hl ++ (Ho ++ []))
def pW (b : Nat) : T := .v (.pointer (some ⟨b, 0, none⟩))
theorem OE.of {l : List En} : ∀ (r : T) (H : Heap), (∃ v, r = .v v ∧ OE l v H) → r.plain = true ∧ ∀ p ∈ H, p.2.vals.all T.isV = true := by
  rintro r H ⟨v, rfl, h⟩
  exact ⟨rfl, h.plain⟩
theorem work_fn (n : Nd) (hl : n.log.length ≤ 1000000000) : FnH Tryz.prog 102 [nd n] [] (fun r H => ∃ b, r = pW b ∧ WkH b n [] H) := by
  have hc := clone_fn false n.log hl
  refine fn_enter Tryz.func102 (by rfl) (by rfl) ?_
  intro S0 w0
  show Sim _ _ [(0, T.agg (nodeC n (.sl false (n.log.map een))))] _ _
  refine zC ?_
  apply cr
  refine e_bx fun b1 _ => ?_
  refine s_ p_as ?_
  refine zC ?_
  apply cr
  refine s_ p_fr ?_
  refine s_ p_lo ?_
  refine e_cLH (G := []) hc (LendsL.le (LeL.refl _)) ⟨_, List.Perm.refl _⟩ OE.of ?_
  rintro r H1 ⟨v, rfl, ho⟩
  obtain ⟨p, c, rfl⟩ := ho.len
  refine from_perm List.perm_middle ?_
  refine s_ p_fr ?_
  refine e_st ?_
  refine zC ?_
  apply cr
  refine s_ p_loa ?_
  refine s_ (p_bd 23 [_, _, _, _, _, _, _, _, _, _, _, _, _, _, _, _, _, _, _, _, _, _, _]) ?_
  refine e_bx fun b9 _ => ?_
  refine s_ p_as ?_
  refine zC ?_
  refine zR ?_
  exact rh (.keep _ _ _ _ _ (BlkLe.refl _) (.skip _ _ _ kR)) ⟨b9, rfl, _, _, H1, [], ho, osl_nil, rfl⟩ (Le.refl _)
theorem node_lends {G : Heap} (n : Nd) {x y : T} (h : Lends G x y) : LendsL G (nodeC n x) (nodeC n y) := by
  unfold nodeC
  repeat (first | exact LendsL.nil | (refine LendsL.cons (Lends.le (Le.refl _)) ?_) | (refine LendsL.cons h ?_))
def wkD (n : Nd) (out : List Ms) : List T := nodeC n (eens n.log) ++ [mss out]
theorem wk_lends {G Hl Ho : Heap} {n : Nd} {out : List Ms} {vl vo : Value} (h1 : OE n.log vl Hl) (h2 : OM out vo Ho) (hl : ∀ p ∈ Hl, p ∈ G) (ho : ∀ p ∈ Ho, p ∈ G) : LendsL G (wkC n vl vo) (wkD n out) :=
  LendsL.append (node_lends n (h1.lend hl)) (LendsL.cons (h2.lend ho) LendsL.nil)
theorem wk_ptr {G Hl Ho : Heap} {b : Nat} {n : Nd} {out : List Ms} {vl vo : Value} (h1 : OE n.log vl Hl) (h2 : OM out vo Ho) (hl : ∀ p ∈ Hl, p ∈ G) (ho : ∀ p ∈ Ho, p ∈ G) (hb : (b, (⟨tW, wkC n vl vo, 23⟩ : Blk)) ∈ G) : Lends G (pW b) (.adr (.agg (wkD n out))) :=
  Lends.ptr hb (.inr ⟨_, rfl⟩) (wk_lends h1 h2 hl ho) (by simp [T.cells, wkD]) (by simp [T.cells, wkD, wkC, nodeC])
theorem nd_ptr {G Hl : Heap} {b : Nat} {n : Nd} {vl vo : Value} (h1 : OE n.log vl Hl) (hl : ∀ p ∈ Hl, p ∈ G) (hb : (b, (⟨tW, wkC n vl vo, 23⟩ : Blk)) ∈ G) : Lends G (pW b) (.adr (nd n)) :=
  Lends.ptr hb (.inr ⟨_, rfl⟩) (node_lends n (h1.lend hl)) (by simp [nd, T.cells, nodeC]) (by simp [nd, T.cells, wkC, nodeC])
theorem done_fn {b : Nat} {n : Nd} {out : List Ms} {H : Heap} (hl : n.log.length ≤ 1000000000) (hw : WkH b n out H) : FnP' Tryz.prog 106 [pW b] H (.tup [nd n, mss out]) := by
  obtain ⟨vl, vo, Hl, Ho, h1, h2, rfl⟩ := hw
  have hc := clone_fn false n.log hl
  obtain ⟨p, c, rfl⟩ := h1.len
  obtain ⟨q, d, rfl⟩ := h2.len
  refine fn_enter Tryz.func106 (by rfl) (by rfl) ?_
  intro S0 w0
  show Sim _ _ [(0, pW b)] _ _
  refine zC ?_
  apply cr
  refine e_al fun b2 _ => ?_
  refine s_ p_as ?_
  refine zC ?_
  apply cr
  refine s_ p_mv ?_
  refine s_ p_mv ?_
  refine s_ p_nc ?_
  refine s_ p_fr ?_
  refine s_ p_fr ?_
  refine s_ p_lo ?_
  refine e_cLA hc (LendsL.cons (h1.lend (by intro p hp; simp [hp])) LendsL.nil) OE.of ?_
  rintro r H1 ⟨v, rfl, ho⟩
  obtain ⟨p', c', rfl⟩ := ho.len
  refine from_perm (List.perm_middle.trans (.cons _ List.perm_middle)) ?_
  refine s_ p_nc ?_
  refine s_ p_fr ?_
  refine s_ p_fr ?_
  refine e_st ?_
  refine zC ?_
  refine zC ?_
  refine lendRest 0 (.adr (.agg (wkD n out))) (wk_ptr ho h2 (by intro p hp; simp [hp]) (by intro p hp; simp [hp]) List.mem_cons_self) ?_
  refine zC ?_
  refine ca [0, 1, 2, 3, 4, 5, 6, 7, 8, 9] [8] ?_
  refine a_ (fun _ => p_mv) ?_
  refine a_ (fun _ => p_nc) ?_
  refine a_ (fun _ => p_faA) ?_
  refine a_ (fun _ => p_la) ?_
  refine a_ (fun _ => p_mv) ?_
  refine a_ (fun _ => p_nc) ?_
  refine a_ (fun _ => p_fa) ?_
  refine a_ (fun _ => p_ld) ?_
  refine a_st ?_
  refine a_ (fun _ => p_as) ?_
  apply an
  refine zC ?_
  refine zR ?_
  refine rt ?_
  exact Le.refl _
def sendF (n : Nd) (to : Int) (m : Ms) : Ms := { m with frm := n.id, to := to, term := n.term }
theorem send_fn {b : Nat} {n : Nd} {out : List Ms} {H : Heap} (to : Int) (m : Ms) (hb : out.length ≤ 1000) (hw : WkH b n out H) : FnH Tryz.prog 145 [pW b, ei to, ms m] H (fun r H' => r = .tup [] ∧ WkH b n (out ++ [sendF n to m]) H') := by
  obtain ⟨vl, vo, Hl, Ho, h1, h2, rfl⟩ := hw
  obtain ⟨p, c, rfl⟩ := h1.len
  obtain ⟨q, d, rfl⟩ := h2.len
  refine fn_enter Tryz.func145 (by rfl) (by rfl) ?_
  intro S0 w0
  show Sim _ _ [(0, pW b), (1, ei to), (2, T.agg (msC m (eens m.entries)))] _ _
  refine zC ?_
  apply cr
  refine e_bx fun b5 _ => ?_
  refine zC ?_
  refine ca [0, 1, 2, 3, 4, 5, 6, 7, 8, 9, 10, 11, 12, 13, 14, 15, 16] [12, 14, 16] ?_
  refine a_ (fun _ => p_mv) ?_
  refine a_ (fun _ => p_nc) ?_
  refine a_ (fun _ => p_fr) ?_
  refine a_ (fun _ => p_fr) ?_
  refine a_lo ?_
  refine a_ (fun _ => p_mv) ?_
  refine a_ (fun _ => p_mv) ?_
  refine a_ (fun _ => p_nc) ?_
  refine a_ (fun _ => p_fr) ?_
  refine a_ (fun _ => p_fr) ?_
  refine a_lo ?_
  refine a_ (fun _ => p_fr) ?_
  refine a_st ?_
  refine a_ (fun _ => p_fr) ?_
  refine a_st ?_
  refine a_ (fun _ => p_fr) ?_
  refine a_st ?_
  apply an
  refine zC ?_
  refine zC ?_
  refine ca [0, 1, 2, 3, 4, 5, 6, 7, 8, 9, 10] [7, 10] ?_
  refine a_ (fun _ => p_mv) ?_
  refine a_ (fun _ => p_mv) ?_
  refine a_ (fun _ => p_nc) ?_
  refine a_ (fun _ => p_fr) ?_
  refine a_lo ?_
  refine a_loa ?_
  refine a_ (fun _ => p_bs) ?_
  refine a_os (ho := h2) (A := _ :: _ :: Hl) (B := []) (ms11 out) (fun v' Hs' h3 => ⟨zd, ?_⟩)
  refine zD ?_
  obtain ⟨q', d', rfl⟩ := h3.len
  refine a_ (fun _ => p_nc) ?_
  refine a_ (fun _ => p_fr) ?_
  refine a_st ?_
  apply an
  refine zC ?_
  exact rhn (.skip _ _ _ kR) ⟨rfl, _, _, Hl, Hs', h1, (by unfold OM; rw [List.map_append]; exact h3), rfl⟩ (Le.refl _)
def oweF (n : Nd) (to : Int) : Ms := sendF n to (if n.next.get to.toNat ≤ n.base then ⟨5, 0, 0, 0, n.base, n.baseTerm, 0, n.baseConf, false, [], n.snap⟩
  else ⟨3, 0, 0, 0, n.next.get to.toNat - 1, termF n (n.next.get to.toNat - 1), n.commit, 0, false, (n.log.drop (min (n.next.get to.toNat - 1 - n.base) n.log.length).toNat).take 8, []⟩)
theorem five {to : Int} (h0 : 0 ≤ to) (h5 : to < 5) : to = 0 ∨ to = 1 ∨ to = 2 ∨ to = 3 ∨ to = 4 := by omega
theorem next_at {n : Nd} {vl vo : Value} {to : Int} (h0 : 0 ≤ to) (h5 : to < 5) : (wkC n vl vo)[0 + 0 + 12 + to.toNat * 1]? = some (ei (n.next.get to.toNat)) := by
  rcases five h0 h5 with rfl | rfl | rfl | rfl | rfl <;> rfl
theorem owe_fn {b : Nat} {n : Nd} {out : List Ms} {H : Heap} (to : Int) (h0 : 0 ≤ to) (h5 : to < 5) (hl : n.log.length ≤ 1000000000) (hb1 : -100000000000 ≤ n.base) (hb2 : n.base ≤ 100000000000) (hb3 : n.next.get to.toNat ≤ 100000000000) (hb : out.length ≤ 1000) (hw : WkH b n out H) :
    FnH Tryz.prog 105 [pW b, ei to] H (fun r H' => r = .tup [] ∧ WkH b n (out ++ [oweF n to]) H') := by
  have hw' := hw
  obtain ⟨vl, vo, Hl, Ho, h1, h2, rfl⟩ := hw
  obtain ⟨p, c, rfl⟩ := h1.len
  obtain ⟨q, d, rfl⟩ := h2.len
  refine fn_enter Tryz.func105 (by rfl) (by rfl) ?_
  intro S0 w0
  show Sim _ _ [(0, pW b), (1, ei to)] _ _
  refine zC ?_
  refine ca [0, 1, 2, 3, 4, 5, 6, 7, 8, 9, 10, 11, 12] [] ?_
  refine a_ (fun _ => p_mv) ?_
  refine a_ (fun _ => p_mv) ?_
  refine a_ (fun _ => p_nc) ?_
  refine a_ (fun _ => p_fr) ?_
  refine a_ (fun _ => p_fr) ?_
  refine a_ (fun _ => p_ar) ?_
  refine a_lo (hd := next_at h0 h5) ?_
  refine a_ (fun _ => p_mv) ?_
  refine a_ (fun _ => p_nc) ?_
  refine a_ (fun _ => p_fr) ?_
  refine a_ (fun _ => p_fr) ?_
  refine a_lo ?_
  refine a_ (fun _ => p_le) ?_
  apply an
  refine zC ?_
  refine ci ?_ ?_
  · intro hc
    refine zC ?_
    refine ca [0, 1, 2, 3, 4, 5, 6, 7, 8, 9, 10, 11, 12, 13, 14, 15, 16, 17, 18, 19, 20, 21, 22, 23] [23] ?_
    refine a_ (fun _ => p_mv) ?_
    refine a_ (fun _ => p_mv) ?_
    refine a_ (fun _ => p_mv) ?_
    refine a_ (fun _ => p_nc) ?_
    refine a_ (fun _ => p_fr) ?_
    refine a_ (fun _ => p_fr) ?_
    refine a_lo ?_
    refine a_ (fun _ => p_mv) ?_
    refine a_ (fun _ => p_nc) ?_
    refine a_ (fun _ => p_fr) ?_
    refine a_ (fun _ => p_fr) ?_
    refine a_lo ?_
    refine a_ (fun _ => p_mv) ?_
    refine a_ (fun _ => p_nc) ?_
    refine a_ (fun _ => p_fr) ?_
    refine a_ (fun _ => p_fr) ?_
    refine a_lo ?_
    refine a_ (fun _ => p_mv) ?_
    refine a_ (fun _ => p_nc) ?_
    refine a_ (fun _ => p_fr) ?_
    refine a_ (fun _ => p_fr) ?_
    refine a_lo ?_
    refine a_ (fun _ => p_bd 11 [_, _, _, _, _, _, _, _, _, _, _]) ?_
    refine a_cH (FnH.of_le ?_ (send_fn to ⟨5, 0, 0, 0, n.base, n.baseTerm, 0, n.baseConf, false, [], n.snap⟩ hb hw')) (fun r H' ⟨hr, h3⟩ => ⟨zd, ?_⟩)
    · ((repeat (apply LeL.cons; (first | exact Le.refl _ | exact Le.nil _ | exact Le.full _ _ | exact Le.any _ | (apply Le.agg; (repeat (apply LeL.cons; (first | exact Le.refl _ | exact Le.nil _ | exact Le.full _ _ | exact Le.any _))); exact LeL.nil) | (apply Le.tup; (repeat (apply LeL.cons; (first | exact Le.refl _ | exact Le.nil _ | exact Le.full _ _ | exact Le.any _ | (apply Le.agg; (repeat (apply LeL.cons; (first | exact Le.refl _ | exact Le.nil _ | exact Le.full _ _ | exact Le.any _))); exact LeL.nil)))); exact LeL.nil)))); exact LeL.nil)
    · refine zD ?_
      subst hr
      apply an
      refine zC ?_
      refine zR ?_
      refine rh kR ⟨rfl, ?_⟩ (Le.refl _)
      rw [oweF, if_pos hc]
      exact h3
  · intro hc
    have ht := term_fn n (n.next.get to.toNat - 1) hl (by simp only [big]; omega) (by simp only [big]; omega) (by simp only [big]; omega) (by simp only [big]; omega)
    refine zC ?_
    apply cr
    refine s_ p_mv ?_
    refine s_ p_mv ?_
    refine s_ p_nc ?_
    refine s_ p_fr ?_
    refine s_ p_fr ?_
    refine s_ p_ar ?_
    refine s_ (p_lo (hd := next_at h0 h5)) ?_
    refine s_ p_su ?_
    refine s_ p_as ?_
    refine zC ?_
    refine zC ?_
    refine ca [0, 1, 2, 3, 4, 5, 6, 7, 8, 9, 10, 11, 12, 13, 14, 15, 16, 17, 18, 19, 20] [] ?_
    refine a_ (fun _ => p_mv) ?_
    refine a_ (fun _ => p_nc) ?_
    refine a_ (fun _ => p_fr) ?_
    refine a_ (fun _ => p_fr) ?_
    refine a_lo ?_
    refine a_ (fun _ => p_mv) ?_
    refine a_ (fun _ => p_mv) ?_
    refine a_ (fun _ => p_nc) ?_
    refine a_ (fun _ => p_fr) ?_
    refine a_ (fun _ => p_fr) ?_
    refine a_lo ?_
    refine a_ (fun _ => p_su) ?_
    refine a_ (fun _ => p_mv) ?_
    refine a_ (fun _ => p_nc) ?_
    refine a_ (fun _ => p_fr) ?_
    refine a_ (fun _ => p_fr) ?_
    refine a_lo ?_
    (first | refine a_ (fun _ => p_ln) ?_ | refine a_ (fun _ => p_lr) ?_)
    refine a_ (fun _ => p_mi) ?_
    obtain ⟨m, hm⟩ : ∃ m : Nat, (m : Int) = min (n.next.get to.toNat - 1 - n.base) ((n.log.map een).length : Nat) := ⟨(min (n.next.get to.toNat - 1 - n.base) ((n.log.map een).length : Nat)).toNat, by omega⟩
    have hml : m ≤ n.log.length := by simp only [List.length_map] at hm; omega
    have hs5 := (h1.sle (G := (b, ⟨tW, wkC n (.slice p (n.log.map een).length c) (.slice q (out.map ms).length d), 23⟩) :: (Hl ++ (Ho ++ []))) (by intro p hp; simp [hp]))
    have hs5' := SlE.sub hs5 (lo := m) (hi := n.log.length) hml (Nat.le_refl _)
    rw [List.take_of_length_le (by simp)] at hs5'
    obtain ⟨p5, c5, e5, hc5, hl5⟩ := hs5'
    rw [← hm]
    refine a_ (fun _ => p_sbl (i := (m : Int)) (p := p) (n := (n.log.map een).length) (c := c) h1.cap (by simp only [List.length_map, Int.toNat_natCast]; exact e5)) ?_
    refine a_ (fun _ => p_as) ?_
    apply an
    refine zC ?_
    refine zC ?_
    refine zC ?_
    refine ca [0, 1, 2, 3, 4, 5, 6, 7, 8, 9, 10, 11, 12, 14, 15, 16, 17, 18, 13, 19, 20] [13, 20] ?_
    refine a_ (fun _ => p_mv) ?_
    refine a_ (fun _ => p_mv) ?_
    refine a_ (fun _ => p_mv) ?_
    refine a_ (fun _ => p_mv) ?_
    refine a_ (fun _ => p_nc) ?_
    refine a_ (fun _ => p_fr) ?_
    refine a_ (fun _ => p_mv) ?_
    refine a_cL (G := (b, _) :: (Hl ++ (Ho ++ []))) ht (LendsL.cons (nd_ptr h1 (by intro p hp; simp [hp]) List.mem_cons_self) (LendsL.cons (Lends.le (Le.refl _)) LendsL.nil)) ⟨[], perm0⟩ ?_
    refine a_ (fun _ => p_mv) ?_
    refine a_ (fun _ => p_mv) ?_
    (first | refine a_ (fun _ => p_ln) ?_ | refine a_ (fun _ => p_lr) ?_)
    refine a_ (fun _ => p_mi) ?_
    obtain ⟨k, hk⟩ : ∃ k : Nat, (k : Int) = min (((n.log.drop m).length : Nat) : Int) 8 := ⟨min (n.log.drop m).length 8, by omega⟩
    have hs6 := SlE.sub ⟨p5, c5, rfl, hc5, e5 ▸ hl5⟩ (lo := 0) (hi := k) (Nat.zero_le _) (by omega)
    simp only [List.drop_zero, Nat.sub_zero] at hs6
    obtain ⟨p6, c6, e6, hc6, hl6⟩ := hs6
    rw [← hk]
    refine a_ (fun _ => p_sbh (j := (k : Int)) (p := p5) (n := (n.log.drop m).length) (c := c5) hc5 (by simp only [Int.toNat_natCast]; exact e6)) ?_
    refine a_ (fun _ => p_mv) ?_
    refine a_ (fun _ => p_nc) ?_
    refine a_ (fun _ => p_fr) ?_
    refine a_ (fun _ => p_fr) ?_
    refine a_lo ?_
    refine a_cLH (clone_fn false ((n.log.drop m).take k) (by simp; omega)) (LendsL.cons (e6 ▸ hl6) LendsL.nil) ⟨[], perm0⟩ OE.of ?_
    rintro r H1 ⟨v, rfl, ho⟩
    obtain ⟨p7, c7, rfl⟩ := ho.len
    refine ⟨zd, ?_⟩
    refine zD ?_
    refine a_ (fun _ => p_bd 11 [_, _, _, _, _, _, _, _, _, _, _]) ?_
    refine a_cH (FnH.lend (G := H1) ?_ (send_fn to ⟨3, 0, 0, 0, n.next.get to.toNat - 1, termF n (n.next.get to.toNat - 1), n.commit, 0, false, (n.log.drop m).take k, []⟩ hb hw')) (fun r H' ⟨hr, h3⟩ => ⟨zd, ?_⟩)
    · refine LendsL.cons (Lends.le (Le.refl _)) (LendsL.cons (Lends.le (Le.refl _)) (LendsL.cons (Lends.agg ?_) LendsL.nil))
      repeat (first | exact LendsL.nil | (refine LendsL.cons (Lends.le (Le.refl _)) ?_) | (refine LendsL.cons (ho.lend fun _ h => h) ?_))
    · refine zD ?_
      subst hr
      apply an
      refine zC ?_
      refine rhn kR ⟨rfl, ?_⟩ (Le.refl _)
      have e1 : (min (n.next.get to.toNat - 1 - n.base) (n.log.length : Int)).toNat = m := by simp only [List.length_map] at hm; omega
      have e2 : (n.log.drop m).take 8 = (n.log.drop m).take k := by
        rw [List.take_eq_take_iff]; omega
      rw [oweF, if_neg hc, e1, e2]
      exact h3
end Go.Proofs.YtjbokbikkcfjjaaGreat
end
