/-
  replica: Compact.
-/
import Derived.Test.YtppaabahbjgihaaProp
set_option maxRecDepth 4000
namespace Go.Proofs.Ytppaabahbjgihaa
open Go.Cap
set_option linter.unusedSimpArgs false
set_option linter.unusedVariables false
attribute [local irreducible] POp SimFrom DrawFrom EOp Sim FnH T.gp
/-- The members behind k entries. -/
def bcK (n : Nd) : Nat → Int
  | 0 => n.baseConf
  | k + 1 => if ¬ (n.log.getD k default).conf = 0 then (n.log.getD k default).conf else bcK n k
def compactN (n : Nd) (index : Int) (snap : List UInt8) : Nd := { n with baseConf := bcK n (index - n.base).toNat, log := n.log.drop (index - n.base).toNat, base := index, baseTerm := termF n index, snap := snap }
def compactF (n : Nd) (index : Int) (snap : List UInt8) : Nd × Int := if (index ≤ n.base ∨ n.commit < index) ∨ lastF n < index then (n, 1) else (compactN n index snap, 0)
set_option maxHeartbeats 2000000 in
theorem compact_fn {n : Nd} (index : Int) (snap : List UInt8) (hn : Bd n) (hi0 : -big ≤ index) (hi1 : index ≤ big) : FnP Try.prog 22 [nd n, ei index, es snap] (fun r => r = .tup [nd (compactF n index snap).1, ei (compactF n index snap).2]) := by
  have hW := work_fn n (bd_len n hn)
  have hb0 := hn.base0
  have hb1 := hn.base1
  have hlog := hn.log
  have hL := last_fn n (bd_len n hn) (by omega) (by omega)
  have hT := term_fn n index (bd_len n hn) (by simp only [big]; omega) (by simp only [big]; omega) hi0 hi1
  refine fn_enter Try.func22 (by rfl) (by rfl) ?_
  intro S0 w0
  show Sim _ _ [(0, T.agg (nodeC n (.sl false (n.log.map een)))), (1, ei index), (2, es snap)] _ _
  (repeat (first | apply cn | apply cq | apply cb | apply ck | apply cl | apply cx))
  apply cr
  refine e_bx fun b3 _ => ?_
  refine e_al fun b6 _ => ?_
  refine s_ p_as ?_
  (repeat (first | apply cn | apply cq | apply cb | apply ck | apply cl | apply cx))
  refine sim_perm (List.Perm.swap _ _ _) ?_
  refine lend1 3 (by simp [nodeC]) ?_
  (repeat (first | apply cn | apply cq | apply cb | apply ck | apply cl | apply cx))
  apply cr
  refine s_ p_la ?_
  refine e_cH (Hs := []) (Hr := [_]) hW (.refl _) (fun r H' ⟨b, hr, hw⟩ => ?_)
  subst hr
  obtain ⟨vl, vo, Hl, Ho, h1, h2, rfl⟩ := hw
  obtain ⟨p, c, rfl⟩ := h1.len
  obtain ⟨q, d, rfl⟩ := h2.len
  have hcap : (n.log.map een).length ≤ c := OSl.cap h1
  refine s_ p_as ?_
  (repeat (first | apply cn | apply cq | apply cb | apply ck | apply cl | apply cx))
  apply cr
  refine s_ p_mv ?_
  refine s_ p_nc ?_
  refine s_ p_fr ?_
  refine s_ p_loa ?_
  refine s_ (p_cL (G := (b, _) :: (Hl ++ (Ho ++ []))) hL (LendsL.cons (Lends.agg (node_lends n (h1.lend (by intro p hp; simp [hp])))) LendsL.nil) ⟨[_], .refl _⟩) ?_
  refine s_ p_mv ?_
  refine s_ p_ex ?_
  refine s_ p_ex ?_
  refine s_ p_as ?_
  refine s_ p_as ?_
  (repeat (first | apply cn | apply cq | apply cb | apply ck | apply cl | apply cx))
  apply cr
  refine s_ p_mv ?_
  refine s_ p_mv ?_
  refine s_ p_nc ?_
  refine s_ p_fr ?_
  refine s_ p_fr ?_
  refine s_ p_lo ?_
  refine s_ p_le ?_
  refine s_ p_mv ?_
  refine gF (fun hg => p_mv) ?_
  refine gF (fun hg => p_mv) ?_
  refine gF (fun hg => p_nc (hx := u_ hg)) ?_
  refine gF (fun hg => p_fr (hx := u_ hg)) ?_
  refine gF (fun hg => p_fr (hx := u_ hg)) ?_
  refine gF (fun hg => p_lo (hx := u_ hg)) ?_
  refine gF (fun hg => p_gt (hx := u_ hg) (hy := u_ hg)) ?_
  refine s_ p_or ?_
  refine s_ p_mv ?_
  refine gF (fun hg => p_mv) ?_
  refine gF (fun hg => p_mv) ?_
  refine gF (fun hg => p_gt (hx := u_ hg) (hy := u_ hg)) ?_
  refine s_ p_or ?_
  (repeat (first | apply cn | apply cq | apply cb | apply ck | apply cl | apply cx))
  refine ci ?_ ?_
  · intro hr
    (repeat (first | apply cn | apply cq | apply cb | apply ck | apply cl | apply cx))
    apply cr
    refine s_ p_mv ?_
    refine s_ p_nc ?_
    refine s_ p_fr ?_
    refine s_ p_loa ?_
    refine from_lend1 (G := (b, _) :: (Hl ++ (Ho ++ []))) (H1 := [_]) 48 (nd n) (Lends.agg (node_lends n (h1.lend (by intro p hp; simp [hp])))) ?_ (.refl _)
    refine e_st ?_
    refine s_ p_as ?_
    (repeat (first | apply cn | apply cq | apply cb | apply ck | apply cl | apply cx))
    (repeat (first | apply cn | apply cq | apply cb | apply ck | apply cl | apply cx))
    (apply sim_ret; (try simp only [blockΨ_ret, thenΨ_ret, loopL_ret, cutΨ_ret, cutE_ret]); first | refine rt ?_ | refine rn ?_)
    rw [compactF, if_pos hr]
    exact Le.refl _
  intro hr
  have hlf : lastF n = n.base + n.log.length := rfl
  obtain ⟨m, hm⟩ : ∃ m : Nat, (m : Int) = index - n.base := ⟨(index - n.base).toNat, by omega⟩
  have hml : m ≤ n.log.length := by omega
  have hmt : (index - n.base).toNat = m := by omega
  (repeat (first | apply cn | apply cq | apply cb | apply ck | apply cl | apply cx))
  apply cr
  refine s_ p_mv ?_
  refine s_ p_nc ?_
  refine s_ p_fr ?_
  refine s_ p_mv ?_
  refine s_ (p_cL (G := (b, _) :: (Hl ++ (Ho ++ []))) hT (LendsL.cons (nd_ptr h1 (by intro p hp; simp [hp]) List.mem_cons_self) (LendsL.cons (Lends.le (Le.refl _)) LendsL.nil)) ⟨[_], .refl _⟩) ?_
  refine s_ p_as ?_
  (repeat (first | apply cn | apply cq | apply cb | apply ck | apply cl | apply cx))
  refine ca [0, 1, 2, 3, 4, 5, 6, 7, 8, 9, 10, 11, 12, 13, 14] [] ?_
  refine a_ (fun _ => p_mv) ?_
  refine a_ (fun _ => p_nc) ?_
  refine a_ (fun _ => p_fr) ?_
  refine a_ (fun _ => p_fr) ?_
  refine a_lo ?_
  refine a_ (fun _ => p_mv) ?_
  refine a_ (fun _ => p_mv) ?_
  refine a_ (fun _ => p_nc) ?_
  refine a_ (fun _ => p_fr) ?_
  refine a_ (fun _ => p_fr) ?_
  refine a_lo ?_
  refine a_ (fun _ => p_su) ?_
  rw [← hm]
  refine a_ (fun _ => p_sbh (j := (m : Int)) (v := .slice p m c) hcap (by rw [Int.toNat_natCast]; exact h1.sub0 _)) ?_
  (first | refine a_ (fun _ => p_ln) ?_ | refine a_ (fun _ => p_lr) ?_)
  refine a_ (fun _ => p_mv) ?_
  apply an
  (repeat (first | apply cn | apply cq | apply cb | apply ck | apply cl | apply cx))
  apply sim_loopL (σ := Nat) (ok := fun k => k ≤ m) (env := fun k => [(68, ei (k : Nat)), (67, ei (m : Nat)), (66, .v (.slice p m c)), (11, ei (termF n index)), (8, pW b), (1, ei index), (2, es snap), (6, .v (.pointer (some ⟨b6, 0, none⟩)))])
    (heap := fun k => (b, ⟨tW, wkC { n with baseConf := bcK n k } (.slice p (n.log.map een).length c) (.slice q (List.length (([] : List Ms).map ms)) d), 23⟩) :: (Hl ++ (Ho ++ [])) ++ [(b6, (⟨29, nodeC zeroN (.v (.slice none 0 0)), 22⟩ : Blk))]) (μ := fun k => m - k) (s0 := 0)
  · exact Nat.zero_le _
  · exact eL
  · exact kR
  intro k hk
  (repeat (first | apply cn | apply cq | apply cb | apply ck | apply cl | apply cx))
  apply cr
  refine s_ p_lt ?_
  (repeat (first | apply cn | apply cq | apply cb | apply ck | apply cl | apply cx))
  refine ci ?_ ?_
  · intro hlt
    have hkm : k < m := by omega
    have hkl : k < n.log.length := by omega
    have hrow : ∃ bl, p = some ⟨bl, 0, none⟩ ∧ Hl = [(bl, (⟨tE, (n.log.map een).flatMap T.cells, c * 3⟩ : Blk))] := by
      rcases h1 with ⟨h, _⟩ | ⟨bl, c', e, _, rfl⟩
      · have : n.log = [] := by simpa using h
        rw [this] at hkl; simp at hkl
      · cases e; exact ⟨bl, rfl, rfl⟩
    obtain ⟨bl, rfl, rfl⟩ := hrow
    (repeat (first | apply cn | apply cq | apply cb | apply ck | apply cl | apply cx))
    apply cr
    (first | refine s_ (p_ix hix) ?_ | refine s_ (p_ix hix2) ?_ | refine s_ p_ia ?_ | refine s_ p_ir ?_)
    refine s_ (p_loa (hc := TakeR.flat (een3 n.log) (een_get n.log hkl))) ?_
    refine e_al fun b13 _ => ?_
    refine e_st ?_
    (repeat (first | apply cn | apply cq | apply cb | apply ck | apply cl | apply cx))
    apply cr
    refine s_ p_fr ?_
    refine s_ p_lo ?_
    refine s_ p_ne ?_
    (repeat (first | apply cn | apply cq | apply cb | apply ck | apply cl | apply cx))
    refine ci ?_ ?_
    · intro hne
      have hs : bcK n (k + 1) = (n.log.getD k default).conf := by rw [bcK, if_pos hne]
      (repeat (first | apply cn | apply cq | apply cb | apply ck | apply cl | apply cx))
      apply cr
      refine s_ p_mv ?_
      refine s_ p_fr ?_
      refine s_ p_lo ?_
      refine s_ p_nc ?_
      refine s_ p_fr ?_
      refine s_ p_fr ?_
      refine e_st ?_
      (repeat (first | apply cn | apply cq | apply cb | apply ck | apply cl | apply cx))
      apply cr
      refine s_ p_ad ?_
      refine s_ p_mv ?_
      (repeat (first | apply cn | apply cq | apply cb | apply ck | apply cl | apply cx))
      refine ⟨k + 1, hkm, by show m - (k + 1) < m - k; omega, ⟨le_get (by rfl) (Le.refl _), eL⟩, ?_⟩
      dsimp only
      rw [hs]
      exact kS kR
    · intro hz
      have hs : bcK n (k + 1) = bcK n k := by rw [bcK, if_neg hz]
      (repeat (first | apply cn | apply cq | apply cb | apply ck | apply cl | apply cx))
      apply cr
      refine s_ p_ad ?_
      refine s_ p_mv ?_
      (repeat (first | apply cn | apply cq | apply cb | apply ck | apply cl | apply cx))
      refine ⟨k + 1, hkm, by show m - (k + 1) < m - k; omega, ⟨le_get (by rfl) (Le.refl _), eL⟩, ?_⟩
      dsimp only
      rw [hs]
      exact kS kR
  · intro hlt
    have hkm : k = m := by omega
    subst hkm
    have hs5 := (h1.sle (G := (b, ⟨tW, wkC { n with baseConf := bcK n k } (.slice p (n.log.map een).length c) (.slice q (List.length (([] : List Ms).map ms)) d), 23⟩) :: (Hl ++ (Ho ++ []))) (by intro p hp; simp [hp]))
    have hs5' := SlE.sub hs5 (lo := k) (hi := n.log.length) hml (Nat.le_refl _)
    rw [List.take_of_length_le (by simp)] at hs5'
    obtain ⟨p5, c5, e5, hc5, hl5⟩ := hs5'
    (repeat (first | apply cn | apply cq | apply cb | apply ck | apply cl | apply cx))
    refine ca [0, 1, 2, 3, 4, 5, 6, 7, 8, 9, 10, 11, 12, 13, 14, 15, 16, 17, 18] [14, 18] ?_
    refine a_ (fun _ => p_mv) ?_
    refine a_ (fun _ => p_mv) ?_
    refine a_ (fun _ => p_nc) ?_
    refine a_ (fun _ => p_fr) ?_
    refine a_ (fun _ => p_fr) ?_
    refine a_lo ?_
    refine a_ (fun _ => p_mv) ?_
    refine a_ (fun _ => p_mv) ?_
    refine a_ (fun _ => p_nc) ?_
    refine a_ (fun _ => p_fr) ?_
    refine a_ (fun _ => p_fr) ?_
    refine a_lo ?_
    refine a_ (fun _ => p_su) ?_
    rw [← hm]
    refine a_ (fun _ => p_sbl (i := (k : Int)) (v := .slice p5 (n.log.drop k).length c5) hcap (by rw [List.length_map, Int.toNat_natCast]; exact e5)) ?_
    refine a_cLH (clone_fn false (n.log.drop k) (by simp; omega)) (LendsL.cons (e5 ▸ hl5) LendsL.nil) ⟨[_], .refl _⟩ OE.of ?_
    rintro r H1 ⟨v, rfl, ho⟩
    obtain ⟨p7, c7, rfl⟩ := ho.len
    refine ⟨by (repeat (first | exact trivial | (apply And.intro; focus (intro hb; first | exact trivial | exact noB hb rfl | (repeat (first | exact hZ | apply hS | apply hA)))))), ?_⟩
    (apply Exists.intro; apply And.intro; (focus (repeat (first | exact PDrop.nil | apply PDrop.dropL rfl | apply PDrop.keep))))
    refine a_ (fun _ => p_nc) ?_
    refine a_ (fun _ => p_fr) ?_
    refine a_ (fun _ => p_fr) ?_
    refine a_st ?_
    apply an
    (repeat (first | apply cn | apply cq | apply cb | apply ck | apply cl | apply cx))
    apply cr
    refine s_ p_mv ?_
    refine s_ p_mv ?_
    refine s_ p_mv ?_
    refine s_ p_mv ?_
    refine s_ p_mv ?_
    refine s_ p_mv ?_
    refine s_ p_nc ?_
    refine s_ p_fr ?_
    refine s_ p_fr ?_
    refine e_st ?_
    refine s_ p_nc ?_
    refine s_ p_fr ?_
    refine s_ p_fr ?_
    refine e_st ?_
    refine s_ p_nc ?_
    refine s_ p_fr ?_
    refine s_ p_fr ?_
    refine e_st ?_
    (repeat (first | apply cn | apply cq | apply cb | apply ck | apply cl | apply cx))
    apply cr
    refine s_ p_mv ?_
    refine s_ p_nc ?_
    refine s_ p_fr ?_
    refine s_ p_loa ?_
    have hcn : compactN n index snap = { n with baseConf := bcK n k, log := n.log.drop k, base := index, baseTerm := termF n index, snap := snap } := by rw [compactN, hmt]
    refine from_lend1 (G := H1 ++ ((b, _) :: (Hl ++ (Ho ++ [])))) (H1 := [_]) 118 (nd (compactN n index snap)) ?_ ?_ (by rw [List.append_assoc]; exact .refl _)
    · rw [hcn]
      exact Lends.agg (node_lends { n with baseConf := bcK n k, log := n.log.drop k, base := index, baseTerm := termF n index, snap := snap } (ho.lend (by intro p hp; simp [hp])))
    refine e_st ?_
    refine s_ p_as ?_
    (repeat (first | apply cn | apply cq | apply cb | apply ck | apply cl | apply cx))
    (repeat (first | apply cn | apply cq | apply cb | apply ck | apply cl | apply cx))
    (apply sim_ret; (try simp only [blockΨ_ret, thenΨ_ret, loopL_ret, cutΨ_ret, cutE_ret]); first | refine rt ?_ | refine rn ?_)
    rw [compactF, if_neg hr]
    exact Le.refl _
end Go.Proofs.Ytppaabahbjgihaa
