/-
  keep.alike, own: how many entries two nodes have alike at their fronts.
  frames: checksums, heads, frames.
  frames: Frame, One, Scan.
-/
import Derived.Test.YtjbokbikkcfjjaaGreatAas
import Derived.Test.YtjbokbikkcfjjaaGreatAau
import Derived.Test.YtjbokbikkcfjjaaGreatAaq
import Derived.Test.YtjbokbikkcfjjaaGreatAar
section
set_option maxRecDepth 16000
namespace Go.Proofs.YtjbokbikkcfjjaaGreat
open Go.Cap
set_option linter.unusedSimpArgs false
set_option linter.unusedVariables false
attribute [local irreducible] POp SimFrom DrawFrom EOp Sim FnH T.gp
def pfx : List En → List En → Nat
  | x :: xs, y :: ys => if x = y then pfx xs ys + 1 else 0
  | _, _ => 0
def alikeF (a b : Nd) : Nat := if a.base = b.base then pfx a.log b.log else 0
theorem pfx_le : ∀ (a b : List En), pfx a b ≤ a.length ∧ pfx a b ≤ b.length
  | [], b => by simp [pfx]
  | _ :: _, [] => by simp [pfx]
  | x :: xs, y :: ys => by
    have := pfx_le xs ys
    unfold pfx
    split
    · simp only [List.length_cons]; omega
    · simp
theorem pfx_next {a b : List En} {k : Nat} (h1 : k < a.length) (h2 : k < b.length) : pfx (a.drop k) (b.drop k) = if a[k] = b[k] then pfx (a.drop (k + 1)) (b.drop (k + 1)) + 1 else 0 := by
  rw [List.drop_eq_getElem_cons h1, List.drop_eq_getElem_cons h2, pfx]
theorem pfx_end {a b : List En} {k : Nat} (h : ¬ (k < a.length ∧ k < b.length)) : pfx (a.drop k) (b.drop k) = 0 := by
  have := pfx_le (a.drop k) (b.drop k)
  simp only [List.length_drop] at this
  omega
set_option maxHeartbeats 2000000 in
theorem alike_fn (a b : Nd) (ha : a.log.length ≤ 1000000000) (hb : b.log.length ≤ 1000000000) : FnP Tryz.prog 142 [nd a, nd b] (fun r => r = ei (alikeF a b)) := by
  refine fn_enter Tryz.func142 (by rfl) (by rfl) ?_
  intro S0 w0
  show Sim _ _ [(0, T.agg (nodeC a (.sl false (a.log.map een)))), (1, T.agg (nodeC b (.sl false (b.log.map een))))] _ _
  refine zC ?_
  apply cr
  refine e_bx fun b2 _ => ?_
  refine e_bx fun b3 _ => ?_
  refine s_ p_as ?_
  refine zC ?_
  apply cr
  refine s_ p_fr ?_
  refine s_ p_lo ?_
  refine s_ p_fr ?_
  refine s_ p_lo ?_
  refine s_ p_ne ?_
  refine zC ?_
  refine ci ?_ ?_
  · intro hne
    have hne' : ¬ a.base = b.base := hne
    refine zC ?_
    apply cr
    refine s_ p_as ?_
    refine zC ?_
    refine zE ?_
    rw [alikeF, if_neg hne']
    exact Le.refl _
  intro heq
  have heq' : a.base = b.base := Decidable.not_not.1 heq
  rw [alikeF, if_pos heq']
  refine zC ?_
  apply cr
  refine s_ p_as ?_
  refine zC ?_
  apply sim_loopL (σ := Nat) (ok := fun k => k ≤ a.log.length ∧ pfx a.log b.log = k + pfx (a.log.drop k) (b.log.drop k)) (env := fun k => [(5, ei k), (2, pW b2), (3, pW b3)]) (heap := fun _ => [(b3, ⟨44, nodeC b (.sl false (b.log.map een)), 22⟩), (b2, ⟨44, nodeC a (.sl false (a.log.map een)), 22⟩)]) (μ := fun k => a.log.length - k) (s0 := 0)
  · exact ⟨Nat.zero_le _, by simp⟩
  · exact eL
  · exact kR
  rintro k ⟨hk, hp⟩
  by_cases hin : k < a.log.length ∧ k < b.log.length
  · have hix : k < a.log.length := hin.1
    have hix2 : k < b.log.length := hin.2
    have hnx := pfx_next hix hix2
    refine zC ?_
    refine ca [0, 1, 2, 3, 4, 5, 6, 7, 8, 9, 10, 11, 12, 13, 14, 15, 16, 17, 18, 19, 20, 21, 22, 23, 24] [] ?_
    refine a_ (fun _ => p_mv) ?_
    refine a_ (fun _ => p_fr) ?_
    refine a_lo ?_
    (first | refine a_ (fun _ => p_ln) ?_ | refine a_ (fun _ => p_lr) ?_)
    refine a_ (fun _ => p_lt) ?_
    refine a_ (fun _ => p_mv) ?_
    refine ag_T (fun _ hg => p_mv) ?_
    refine ag_T (fun _ hg => p_fr) ?_
    refine ag_loT ?_
    (first | refine ag_T (fun _ hg => p_ln (hx := u_ hg)) ?_ | refine ag_T (fun _ hg => p_lr (hx := u_ hg)) ?_)
    refine ag_T (fun _ hg => p_lt (hx := u_ hg) (hy := u_ hg)) ?_
    refine a_ (fun _ => p_an) ?_
    refine a_ (fun _ => p_mv) ?_
    refine ag_T (fun _ hg => p_fr) ?_
    refine ag_loT ?_
    refine ag_T (fun _ hg => p_mv) ?_
    (first | refine ag_T (fun _ hg => p_ix hix (hx := u_ hg) (hy := u_ hg)) ?_ | refine ag_T (fun _ hg => p_ix hix2 (hx := u_ hg) (hy := u_ hg)) ?_ | refine ag_T (fun _ hg => p_ia (hx := u_ hg) (hy := u_ hg)) ?_ | refine ag_T (fun _ hg => p_ir (hx := u_ hg) (hy := u_ hg)) ?_)
    (first | refine ag_T (fun _ hg => p_la (hx := u_ hg)) ?_ | refine ag_loaT ?_)
    refine ag_T (fun _ hg => p_fr) ?_
    refine ag_loT ?_
    refine ag_T (fun _ hg => p_mv) ?_
    (first | refine ag_T (fun _ hg => p_ix hix (hx := u_ hg) (hy := u_ hg)) ?_ | refine ag_T (fun _ hg => p_ix hix2 (hx := u_ hg) (hy := u_ hg)) ?_ | refine ag_T (fun _ hg => p_ia (hx := u_ hg) (hy := u_ hg)) ?_ | refine ag_T (fun _ hg => p_ir (hx := u_ hg) (hy := u_ hg)) ?_)
    (first | refine ag_T (fun _ hg => p_la (hx := u_ hg)) ?_ | refine ag_loaT ?_)
    refine ag_T (fun _ hg => p_eqD 2 [.int .i64, .int .i64, .str] Tryz.eqGuardType84 (hx := u_ hg) (hy := u_ hg)) ?_
    refine a_ (fun _ => p_an) ?_
    apply an
    refine zC ?_
    refine ci ?_ ?_
    · intro hc
      have he : a.log[k] = b.log[k] := by
        exact eenV_inj.1 hc.2
      rw [if_pos he] at hnx
      refine zC ?_
      apply cr
      refine s_ p_mv ?_
      refine s_ p_ad ?_
      refine s_ p_as ?_
      refine zC ?_
      refine ⟨k + 1, ⟨by omega, by rw [hp, hnx]; omega⟩, (by simp only []; omega), ⟨?_, eL⟩, kR⟩
      apply le_get; ((repeat (apply gS; rfl)); exact gZ)
      exact Le.refl _
    · intro hc
      have he : ¬ a.log[k] = b.log[k] := fun h => hc ⟨⟨by simp only [List.length_map]; omega, by simp only [List.length_map]; omega⟩, eenV_inj.2 h⟩
      rw [if_neg he] at hnx
      refine zC ?_
      apply cr
      refine s_ p_mv ?_
      refine s_ p_as ?_
      refine zC ?_
      refine zE ?_
      rw [hp, hnx]
      exact Le.refl _
  · have hno : ¬ ((k : Int) < ((a.log.map een).length : Nat) ∧ (k : Int) < ((b.log.map een).length : Nat)) := by
      simp only [List.length_map]; omega
    refine zC ?_
    refine ca [0, 1, 2, 3, 4, 5, 6, 7, 8, 9, 10, 11, 12, 13, 14, 15, 16, 17, 18, 19, 20, 21, 22, 23, 24] [] ?_
    refine a_ (fun _ => p_mv) ?_
    refine a_ (fun _ => p_fr) ?_
    refine a_lo ?_
    (first | refine a_ (fun _ => p_ln) ?_ | refine a_ (fun _ => p_lr) ?_)
    refine a_ (fun _ => p_lt) ?_
    refine a_ (fun _ => p_mv) ?_
    refine ag_T (fun _ hg => p_mv) ?_
    refine ag_T (fun _ hg => p_fr) ?_
    refine ag_loT ?_
    (first | refine ag_T (fun _ hg => p_ln (hx := u_ hg)) ?_ | refine ag_T (fun _ hg => p_lr (hx := u_ hg)) ?_)
    refine ag_T (fun _ hg => p_lt (hx := u_ hg) (hy := u_ hg)) ?_
    refine a_ (fun _ => p_an) ?_
    refine a_ (fun _ => p_mv) ?_
    refine ag_T (fun _ hg => p_fr) ?_
    refine ag_loT ?_
    refine ag_T (fun _ hg => p_mv) ?_
    refine ag_T (d := .any) (fun _ hg => absurd hg hno) ?_
    refine ag_T (d := .any) (fun _ hg => absurd hg hno) ?_
    refine ag_T (fun _ hg => p_fr) ?_
    refine ag_loT ?_
    refine ag_T (fun _ hg => p_mv) ?_
    refine ag_T (d := .any) (fun _ hg => absurd hg hno) ?_
    refine ag_T (d := .any) (fun _ hg => absurd hg hno) ?_
    refine ag_T (d := .v (.bool (decide False))) (fun _ hg => absurd hg hno) ?_
    refine a_ (fun _ => p_an) ?_
    apply an
    refine zC ?_
    refine ci ?_ ?_
    · intro hc; exact absurd hc.1 hno
    intro _
    refine zC ?_
    apply cr
    refine s_ p_mv ?_
    refine s_ p_as ?_
    refine zC ?_
    refine zE ?_
    rw [hp, pfx_end hin]
    exact Le.refl _
theorem kown_fn (n : Nd) (hl : n.log.length ≤ 1000000000) : FnP Tryz.prog 44 [nd n] (fun r => r = nd n) := by
  have hc := clone_fnD false n.log hl
  refine fn_enter Tryz.func44 (by rfl) (by rfl) ?_
  intro S0 w0
  show Sim _ _ [(0, T.agg (nodeC n (.sl false (n.log.map een))))] _ _
  refine zC ?_
  apply cr
  refine e_bx fun b1 _ => ?_
  refine e_al fun b2 _ => ?_
  refine zC ?_
  apply cr
  refine s_ p_fr ?_
  refine s_ p_lo ?_
  refine s_ (p_ca (hc)) ?_
  refine s_ p_fr ?_
  refine e_st ?_
  refine zC ?_
  apply cr
  refine s_ p_loa ?_
  refine e_st ?_
  refine zC ?_
  refine zE ?_
  exact Le.refl _
end Go.Proofs.YtjbokbikkcfjjaaGreat
end
section
set_option maxRecDepth 16000
namespace Go.Cap
section
variable {P : Program} {t : Env} {H : Heap} {dst : Option Tmp} {tp : TypeId} {pos : String} {aft : Array Edge} {g : Option (Nat × Bool)} {ty : TypeId} {x : Operand} {k : IntKind} {a : Int}
theorem pop_com (hx : t.ev x = .v (.int .u32 a)) : POp P t H ⟨dst, .unOp .xor ty x, tp, pos, aft, g⟩ (.v (.int .u32 (bXor .u32 4294967295 a))) :=
  POp.still fun S w a' _ _ hr => by
    have h1 := hr x (by simp [Op.operands]); rw [hx] at h1
    exact ⟨.int .u32 (bXor .u32 4294967295 a), by simp only [execOp]; rw [h1.v_eq]; rfl, .v _⟩
theorem p_com (hx : autoParam (t.ev x = .v (.int .u32 a)) zl._auto_1) : POp P t H ⟨dst, .unOp .xor ty x, tp, pos, aft, g⟩ (.v (.int .u32 (bXor .u32 4294967295 a))) := pop_com hx
end
end Go.Cap
namespace Go.Proofs.YtjbokbikkcfjjaaGreat
open Go.Cap
set_option linter.unusedSimpArgs false
set_option linter.unusedVariables false
attribute [local irreducible] POp SimFrom DrawFrom EOp Sim FnH T.gp
def crcStep (c : Int) : Int := bXor .u32 (bShr .u32 c 1) (IntKind.u32.wrap (3988292384 * bAnd .u32 c 1))
def crcN : Nat → Int → Int
  | 0, c => c
  | k + 1, c => crcStep (crcN k c)
def crcAdd (c : Int) (x : UInt8) : Int := crcN 8 (bXor .u32 c (IntKind.u32.wrap (x.toNat : Int)))
def crcL (l : List UInt8) : Int := l.foldl crcAdd 4294967295
def crcF (l : List UInt8) : Int := bXor .u32 4294967295 (crcL l)
theorem crcL_next (l : List UInt8) {k : Nat} (hk : k < l.length) : crcL (l.take (k + 1)) = crcAdd (crcL (l.take k)) l[k] := by
  unfold crcL
  rw [List.take_succ_eq_append_getElem hk, List.foldl_append]
  rfl
theorem u32_range (a : Int) : 0 ≤ IntKind.u32.wrap a ∧ IntKind.u32.wrap a < 4294967296 := by
  simp [IntKind.wrap, IntKind.bits, IntKind.signed]
  omega
theorem crcF_range (l : List UInt8) : 0 ≤ crcF l ∧ crcF l < 4294967296 := u32_range _
def tS : TypeId := 191
def CrH (b : Nat) (c : Int) : Heap := [(b, ⟨tS, [.v (.int .u32 c)], 1⟩)]
theorem cadd_fn (b : Nat) (c : Int) (x : UInt8) : FnH Tryz.prog 153 [pW b, eb x] (CrH b c) (fun r H => r = .tup [] ∧ H = CrH b (crcAdd c x)) := by
  refine fn_enter Tryz.func153 (by rfl) (by rfl) ?_
  intro S0 w0
  show Sim _ _ [(0, pW b), (1, eb x)] (CrH b c) _
  unfold CrH
  refine zC ?_
  apply cr
  refine s_ p_mv ?_
  refine s_ p_nc ?_
  refine s_ p_lo ?_
  refine s_ p_mv ?_
  refine s_ p_cv ?_
  refine s_ p_xor ?_
  refine s_ p_nc ?_
  refine e_st ?_
  refine zC ?_
  apply cr
  refine s_ p_mv ?_
  refine zC ?_
  apply sim_loopL (σ := Nat) (ok := fun k => k ≤ 8) (env := fun k => [(11, ei k), (0, pW b)]) (heap := fun k => [(b, ⟨tS, [.v (.int .u32 (crcN k (bXor .u32 c (IntKind.u32.wrap (x.toNat : Int)))))], 1⟩)]) (μ := fun k => 8 - k) (s0 := 0)
  · exact Nat.zero_le _
  · exact eL
  · exact kR
  intro k hk
  refine zC ?_
  apply cr
  refine s_ p_lt ?_
  refine zC ?_
  refine ci ?_ ?_
  · intro hlt
    refine zC ?_
    refine ca [0, 1, 2, 3, 4, 5, 6, 7, 8, 9, 10, 11, 12] [12] ?_
    refine a_ (fun _ => p_mv) ?_
    refine a_ (fun _ => p_mv) ?_
    refine a_ (fun _ => p_nc) ?_
    refine a_lo ?_
    refine a_ (fun _ => p_shr) ?_
    refine a_ (fun _ => p_mv) ?_
    refine a_ (fun _ => p_nc) ?_
    refine a_lo ?_
    refine a_ (fun _ => p_and) ?_
    refine a_ (fun _ => p_muw) ?_
    refine a_ (fun _ => p_xor) ?_
    refine a_ (fun _ => p_nc) ?_
    refine a_st ?_
    apply an
    refine zC ?_
    apply cr
    refine s_ p_ad ?_
    refine s_ p_mv ?_
    refine zC ?_
    refine ⟨k + 1, by omega, (by simp only []; omega), ⟨?_, eL⟩, kR⟩
    apply le_get; ((repeat (apply gS; rfl)); exact gZ)
    exact Le.refl _
  · intro hge
    have : k = 8 := by omega
    subst this
    refine zC ?_
    exact rhn kR ⟨rfl, rfl⟩ (Le.refl _)
theorem crc_fn (f : Bool) (l : List UInt8) (hl : l.length ≤ 1000000000000) : FnP Tryz.prog 126 [.sl f (l.map eb)] (fun r => r = .v (.int .u32 (crcF l))) := by
  refine fn_enter Tryz.func126 (by rfl) (by rfl) ?_
  intro S0 w0
  show Sim _ _ [(0, T.sl f (l.map eb))] _ _
  refine zC ?_
  apply cr
  refine s_ p_as ?_
  refine zC ?_
  apply cr
  refine e_al fun b3 _ => ?_
  refine e_st ?_
  refine zC ?_
  apply cr
  refine s_ p_mf ?_
  refine s_ p_as ?_
  refine zC ?_
  apply cr
  refine s_ p_mv ?_
  (first | refine s_ p_ln ?_ | refine s_ p_lr ?_)
  refine s_ p_mv ?_
  refine zC ?_
  apply sim_loopL (σ := Nat) (ok := fun k => k ≤ l.length) (env := fun k => [(10, ei k), (9, ei (l.length : Nat)), (8, .sl f (l.map eb)), (4, .clo 153 [pW b3] []), (3, pW b3)]) (heap := fun k => CrH b3 (crcL (l.take k))) (μ := fun k => l.length - k) (s0 := 0)
  · exact Nat.zero_le _
  · refine ⟨?_, ?_, eL⟩
    · apply le_get; ((repeat (apply gS; rfl)); exact gZ)
      exact Le.refl _
    · apply le_get; ((repeat (apply gS; rfl)); exact gZ)
      exact Le.of_eq (by simp [ei])
  · exact kR
  intro k hk
  refine zC ?_
  apply cr
  refine s_ p_lt ?_
  refine zC ?_
  refine ci ?_ ?_
  · intro hlt
    have hlt' : k < l.length := by omega
    refine zC ?_
    apply cr
    (first | refine s_ (p_ix hix) ?_ | refine s_ (p_ix hix2) ?_ | refine s_ p_ia ?_ | refine s_ p_ir ?_)
    (first | refine s_ p_ld ?_ | refine s_ p_lo ?_)
    refine s_ p_as ?_
    refine zC ?_
    apply cr
    refine s_ p_mv ?_
    refine s_ p_mv ?_
    refine e_vH (fs := [pW b3]) (args := [eb l[k]]) (cs := []) (cadd_fn b3 (crcL (l.take k)) l[k]) (Hr := []) perm0 (fun r H' ⟨hr1, hr2⟩ => ?_)
    subst hr1 hr2
    
    refine zC ?_
    apply cr
    refine s_ p_ad ?_
    refine s_ p_mv ?_
    refine zC ?_
    refine ⟨k + 1, by omega, (by simp only []; omega), ⟨?_, eL⟩, ?_⟩
    · apply le_get; ((repeat (apply gS; rfl)); exact gZ)
      exact Le.refl _
    · rw [List.append_nil, ← crcL_next _ hlt']; exact kR
  · intro hge
    have hke : k = l.length := by omega
    subst hke
    rw [List.take_length]
    unfold CrH
    refine zC ?_
    apply cr
    refine s_ p_lo ?_
    refine s_ p_com ?_
    refine s_ p_as ?_
    refine zC ?_
    refine zE ?_
    exact Le.refl _
def fourF (n : Int) : List UInt8 := [UInt8.ofNat (n.toNat % 256), UInt8.ofNat (n.toNat / 256 % 256), UInt8.ofNat (n.toNat / 65536 % 256), UInt8.ofNat (n.toNat / 16777216 % 256)]
theorem u8_wrap (n : Nat) : IntKind.u8.wrap (n : Int) = ((UInt8.ofNat (n % 256)).toNat : Int) := by
  simp [IntKind.wrap, IntKind.bits, IntKind.signed]
theorem shr_u32 (n : Nat) {j : Int} {k : Nat} (hj : 0 ≤ j) (hk : j ≤ 32) (h : 2 ^ j.toNat = k) : bShr .u32 (n : Int) j = ((n / k : Nat) : Int) := by
  unfold bShr
  rw [show min j.toNat IntKind.u32.bits = j.toNat by simp only [IntKind.bits]; omega, show (2 : Int) ^ j.toNat = ((k : Nat) : Int) by rw [← h]; push_cast; rfl, Int.fdiv_eq_ediv_of_nonneg _ (by omega)]
  push_cast
  rfl
theorem four_fn (n : Nat) : FnP Tryz.prog 175 [.v (.int .u32 n)] (fun r => r = .sl true ((fourF n).map eb)) := by
  refine fn_enter Tryz.func175 (by rfl) (by rfl) ?_
  intro S0 w0
  show Sim _ _ [(0, .v (.int .u32 n))] _ _
  refine zC ?_
  apply cr
  refine s_ p_as ?_
  refine zC ?_
  apply cr
  refine s_ p_mv ?_
  refine s_ p_cv ?_
  refine s_ p_mv ?_
  refine s_ p_shr ?_
  refine s_ p_cv ?_
  refine s_ p_mv ?_
  refine s_ p_shr ?_
  refine s_ p_cv ?_
  refine s_ p_mv ?_
  refine s_ p_shr ?_
  refine s_ p_cv ?_
  rw [shr_u32 n (j := 8) (k := 256) (by omega) (by omega) rfl, shr_u32 n (j := 16) (k := 65536) (by omega) (by omega) rfl, shr_u32 n (j := 24) (k := 16777216) (by omega) (by omega) rfl, u8_wrap n, u8_wrap (n / 256), u8_wrap (n / 65536), u8_wrap (n / 16777216)]
  refine s_ p_bs ?_
  refine s_ p_as ?_
  refine zC ?_
  refine zE ?_
  exact Le.refl _
def numF (l : List UInt8) : Int := bOr .u32 (bOr .u32 (bOr .u32 (l.getD 0 0).toNat (bShl .u32 (l.getD 1 0).toNat 8)) (bShl .u32 (l.getD 2 0).toNat 16)) (bShl .u32 (l.getD 3 0).toNat 24)
theorem u32_u8 (x : UInt8) : IntKind.u32.wrap (x.toNat : Int) = (x.toNat : Int) := by
  have := x.toNat_lt
  simp [IntKind.wrap, IntKind.bits, IntKind.signed]
  omega
theorem number4_fn (f : Bool) (l : List UInt8) (hl : 4 ≤ l.length) : FnP Tryz.prog 125 [.sl f (l.map eb)] (fun r => r = .v (.int .u32 (numF l))) := by
  obtain ⟨a, b, c, d, r, rfl⟩ : ∃ a b c d r, l = a :: b :: c :: d :: r := by
    match l, hl with
    | a :: b :: c :: d :: r, _ => exact ⟨a, b, c, d, r, rfl⟩
  refine fn_enter Tryz.func125 (by rfl) (by rfl) ?_
  intro S0 w0
  show Sim _ _ [(0, .sl f ((a :: b :: c :: d :: r).map eb))] _ _
  refine zC ?_
  apply cr
  refine s_ p_as ?_
  refine zC ?_
  refine zC ?_
  refine ca [0, 1, 2, 3, 4, 5, 6, 7, 8, 9, 10, 11, 12, 13, 14, 15, 16, 17, 18, 19, 20, 21, 22] [] ?_
  refine a_ (fun _ => p_mv) ?_
  (first | refine a_ (fun _ => p_ix hix) ?_ | refine a_ (fun _ => p_ix hix2) ?_ | refine a_ (fun _ => p_ia) ?_)
  refine a_ (fun _ => p_ld) ?_
  refine a_ (fun _ => p_cv) ?_
  refine a_ (fun _ => p_mv) ?_
  (first | refine a_ (fun _ => p_ix hix) ?_ | refine a_ (fun _ => p_ix hix2) ?_ | refine a_ (fun _ => p_ia) ?_)
  refine a_ (fun _ => p_ld) ?_
  refine a_ (fun _ => p_cv) ?_
  refine a_ (fun _ => p_shl) ?_
  refine a_ (fun _ => p_oor) ?_
  refine a_ (fun _ => p_mv) ?_
  (first | refine a_ (fun _ => p_ix hix) ?_ | refine a_ (fun _ => p_ix hix2) ?_ | refine a_ (fun _ => p_ia) ?_)
  refine a_ (fun _ => p_ld) ?_
  refine a_ (fun _ => p_cv) ?_
  refine a_ (fun _ => p_shl) ?_
  refine a_ (fun _ => p_oor) ?_
  refine a_ (fun _ => p_mv) ?_
  (first | refine a_ (fun _ => p_ix hix) ?_ | refine a_ (fun _ => p_ix hix2) ?_ | refine a_ (fun _ => p_ia) ?_)
  refine a_ (fun _ => p_ld) ?_
  refine a_ (fun _ => p_cv) ?_
  refine a_ (fun _ => p_shl) ?_
  refine a_ (fun _ => p_oor) ?_
  refine a_ (fun _ => p_as) ?_
  apply an
  refine zC ?_
  refine zE ?_
  exact Le.of_eq (by simp [packT, numF, u32_u8])
theorem wrap_u32 {a : Int} (h0 : 0 ≤ a) (h1 : a < 4294967296) : IntKind.u32.wrap a = a := by
  simp [IntKind.wrap, IntKind.bits, IntKind.signed]
  omega
theorem or32 {a x i k : Nat} (hi : i ≤ 31) (hk : 2 ^ i = k) (ha : a < k) (hx : a + k * x < 4294967296) : bOr .u32 (a : Int) (bShl .u32 (x : Int) (i : Int)) = ((a + k * x : Nat) : Int) := by
  have e2 : bShl .u32 (x : Int) (i : Int) = ((k * x : Nat) : Int) := by
    unfold bShl
    rw [show min ((i : Int)).toNat IntKind.u32.bits = i by simp only [IntKind.bits]; omega]
    have : (x : Int) * 2 ^ i = ((k * x : Nat) : Int) := by rw [← hk]; push_cast; rw [Int.mul_comm]
    rw [this, wrap_u32 (by omega) (by omega)]
  rw [e2]
  unfold bOr
  have e3 : (BitVec.ofInt IntKind.u32.bits (a : Int) ||| BitVec.ofInt IntKind.u32.bits ((k * x : Nat) : Int)).toNat = a + k * x := by
    rw [BitVec.toNat_or, BitVec.toNat_ofInt, BitVec.toNat_ofInt]
    show ((a : Int) % 4294967296).toNat ||| (((k * x : Nat) : Int) % 4294967296).toNat = _
    rw [show ((a : Int) % 4294967296).toNat = a by omega, show (((k * x : Nat) : Int) % 4294967296).toNat = k * x by omega, Nat.or_comm, ← hk, ← Nat.two_pow_add_eq_or_of_lt (by rw [hk]; exact ha) x]
    omega
  rw [e3]
  exact wrap_u32 (by omega) (by omega)
theorem numF_eq (a b c d : UInt8) (r : List UInt8) : numF (a :: b :: c :: d :: r) = ((a.toNat + 256 * b.toNat + 65536 * c.toNat + 16777216 * d.toNat : Nat) : Int) := by
  have ha := a.toNat_lt
  have hb := b.toNat_lt
  have hc := c.toNat_lt
  have hd := d.toNat_lt
  unfold numF
  show bOr .u32 (bOr .u32 (bOr .u32 (a.toNat : Int) (bShl .u32 (b.toNat : Int) ((8 : Nat) : Int))) (bShl .u32 (c.toNat : Int) ((16 : Nat) : Int))) (bShl .u32 (d.toNat : Int) ((24 : Nat) : Int)) = _
  rw [or32 (i := 8) (k := 256) (by omega) rfl (by omega) (by omega), or32 (i := 16) (k := 65536) (by omega) rfl (by omega) (by omega), or32 (i := 24) (k := 16777216) (by omega) rfl (by omega) (by omega)]
theorem numF_range (l : List UInt8) (h : 4 ≤ l.length) : 0 ≤ numF l ∧ numF l < 4294967296 := by
  match l, h with
  | a :: b :: c :: d :: r, _ =>
    have ha := a.toNat_lt
    have hb := b.toNat_lt
    have hc := c.toNat_lt
    have hd := d.toNat_lt
    rw [numF_eq]
    omega
theorem num_four {n : Int} (h0 : 0 ≤ n) (h1 : n < 4294967296) (r : List UInt8) : numF (fourF n ++ r) = n := by
  obtain ⟨m, rfl⟩ := Int.eq_ofNat_of_zero_le h0
  show numF (UInt8.ofNat (m % 256) :: UInt8.ofNat (m / 256 % 256) :: UInt8.ofNat (m / 65536 % 256) :: UInt8.ofNat (m / 16777216 % 256) :: r) = _
  rw [numF_eq]
  simp only [UInt8.toNat_ofNat']
  omega
end Go.Proofs.YtjbokbikkcfjjaaGreat
end
section
set_option maxRecDepth 16000
namespace Go.Proofs.YtjbokbikkcfjjaaGreat
open Go.Cap
set_option linter.unusedSimpArgs false
set_option linter.unusedVariables false
attribute [local irreducible] POp SimFrom DrawFrom EOp Sim FnH T.gp
def frmB (x : List UInt8) : List UInt8 := fourF x.length ++ (fourF (crcF x) ++ x)
theorem fourF_len (n : Int) : (fourF n).length = 4 := rfl
theorem frmB_len (x : List UInt8) : (frmB x).length = 8 + x.length := by simp [frmB, fourF_len]; omega
theorem frmB_num {x : List UInt8} (hx : x.length ≤ 4194304) (r : List UInt8) : numF (frmB x ++ r) = x.length := by
  unfold frmB
  rw [List.append_assoc]
  exact num_four (by omega) (by omega) _
theorem frmB_crc (x : List UInt8) (r : List UInt8) : numF ((frmB x ++ r).drop 4) = crcF x := by
  unfold frmB
  rw [List.append_assoc, List.drop_left' (fourF_len _), List.append_assoc]
  exact num_four (crcF_range x).1 (crcF_range x).2 _
theorem frmB_drop (x r : List UInt8) : (frmB x ++ r).drop 8 = x ++ r := by
  unfold frmB
  rw [List.append_assoc, List.append_assoc, ← List.append_assoc, List.drop_left' (by rw [List.length_append]; rfl)]
theorem frame_fn (f : Bool) (x : List UInt8) (hx : x.length ≤ 4194304) : FnP Tryz.prog 166 [.sl f (x.map eb)] (fun r => r = .tup [bl (frmB x), ei 0]) := by
  have hr := crcF_range x
  obtain ⟨c, hc⟩ : ∃ c : Nat, crcF x = (c : Int) := ⟨(crcF x).toNat, by omega⟩
  have h1 := four_fn x.length
  have h2 := crc_fn f x (by omega)
  have h3 := four_fn c
  rw [← hc] at h3
  have h4 := concat_fn true [(true, fourF x.length), (true, fourF c), (f, x)] (by simp [catL, fourF_len]; omega) (by simp)
  rw [← hc] at h4
  refine fn_enter Tryz.func166 (by rfl) (by rfl) ?_
  intro S0 w0
  show Sim _ _ [(0, .sl f (x.map eb))] _ _
  refine zC ?_
  apply cr
  refine s_ p_as ?_
  refine s_ p_as ?_
  refine zC ?_
  apply cr
  refine s_ p_mv ?_
  (first | refine s_ p_ln ?_ | refine s_ p_lr ?_)
  refine s_ p_gt ?_
  refine zC ?_
  refine ci ?_ ?_
  · intro h; exact absurd h (by simp only [List.length_map]; omega)
  intro _
  refine zC ?_
  apply cr
  refine s_ p_mv ?_
  (first | refine s_ p_ln ?_ | refine s_ p_lr ?_)
  refine s_ p_cv ?_
  rw [List.length_map, wrap_u32 (a := ((x.length : Nat) : Int)) (by omega) (by omega)]
  refine s_ (p_ca (h1)) ?_
  refine s_ p_mv ?_
  refine s_ (p_ca (h2)) ?_
  refine s_ (p_ca (h3)) ?_
  refine s_ p_mv ?_
  refine s_ p_bs ?_
  refine s_ (p_ca (h4)) ?_
  refine s_ p_as ?_
  refine s_ p_as ?_
  refine zC ?_
  refine zE ?_
  exact Le.of_eq (by simp [packT, catL, bl, frmB]; rfl)
theorem one_fn (x : List UInt8) (hx : x.length ≤ 4194304) : FnP Tryz.prog 93 [.sl false ((frmB x).map eb)] (fun r => r = .tup [bl x, ei 0]) := by
  have hlen := frmB_len x
  have h1 := number4_fn false (frmB x) (by omega)
  have hn := frmB_num hx []
  have hcr := frmB_crc x []
  have hdr := frmB_drop x []
  rw [List.append_nil] at hn hcr hdr
  rw [hn] at h1
  rw [List.append_nil] at hdr
  have h2 := crc_fn false x (by omega)
  have h3 := number4_fn false ((frmB x).drop 4) (by rw [List.length_drop]; omega)
  rw [hcr] at h3
  have h4 := cloneB_fnD false x (by omega)
  refine fn_enter Tryz.func93 (by rfl) (by rfl) ?_
  intro S0 w0
  show Sim _ _ [(0, .sl false ((frmB x).map eb))] _ _
  refine zC ?_
  apply cr
  refine s_ p_as ?_
  refine s_ p_as ?_
  refine zC ?_
  apply cr
  refine s_ p_mv ?_
  (first | refine s_ p_ln ?_ | refine s_ p_lr ?_)
  refine s_ p_lt ?_
  refine zC ?_
  refine ci ?_ ?_
  · intro h; exact absurd h (by simp only [List.length_map]; omega)
  intro _
  refine zC ?_
  refine ca [0, 1, 2, 3, 4, 5] [] ?_
  refine a_ (fun _ => p_mv) ?_
  refine a_ (fun _ => p_ca (h1)) ?_
  refine a_ (fun _ => p_mv) ?_
  refine a_ (fun _ => p_s0lE (i := 8) (xs := (frmB x).map eb) (ys := x.map eb) (by rw [← hdr, List.map_drop]; rfl)) ?_
  refine a_ (fun _ => p_as) ?_
  refine a_ (fun _ => p_as) ?_
  apply an
  refine zC ?_
  apply cr
  refine s_ p_mv ?_
  refine s_ p_gt ?_
  refine s_ p_as ?_
  refine zC ?_
  refine ci ?_ ?_
  · intro h; exact absurd h (by omega)
  intro _
  refine zC ?_
  apply cr
  refine s_ p_mv ?_
  refine s_ p_cv ?_
  rw [wrap_i64 (a := ((x.length : Nat) : Int)) (by omega) (by omega)]
  refine s_ p_mv ?_
  (first | refine s_ p_ln ?_ | refine s_ p_lr ?_)
  refine s_ p_gt ?_
  refine s_ p_as ?_
  refine zC ?_
  refine ci ?_ ?_
  · intro h; exact absurd h (by simp only [List.length_map]; omega)
  intro _
  refine zC ?_
  apply cr
  refine s_ p_mv ?_
  refine s_ p_cv ?_
  rw [wrap_i64 (a := ((x.length : Nat) : Int)) (by omega) (by omega)]
  refine s_ p_mv ?_
  (first | refine s_ p_ln ?_ | refine s_ p_lr ?_)
  refine s_ p_lt ?_
  refine s_ p_as ?_
  refine zC ?_
  refine ci ?_ ?_
  · intro h; exact absurd h (by simp only [List.length_map]; omega)
  intro _
  refine zC ?_
  refine ca [0, 1, 2, 3, 4, 5, 6] [] ?_
  refine a_ (fun _ => p_mv) ?_
  refine a_ (fun _ => p_ca (h2)) ?_
  refine a_ (fun _ => p_mv) ?_
  refine a_ (fun _ => p_s0lE (i := 4) (xs := (frmB x).map eb) (ys := ((frmB x).drop 4).map eb) (by rw [List.map_drop]; rfl)) ?_
  refine a_ (fun _ => p_ca (h3)) ?_
  refine a_ (fun _ => p_ne) ?_
  refine a_ (fun _ => p_as) ?_
  apply an
  refine zC ?_
  refine ci ?_ ?_
  · intro h; exact absurd rfl h
  intro _
  refine zC ?_
  apply cr
  refine s_ p_mv ?_
  refine s_ (p_ca (h4)) ?_
  refine s_ p_as ?_
  refine s_ p_as ?_
  refine zC ?_
  refine zE ?_
  exact Le.refl _
def tBl (l : List (List UInt8)) : T := .sl false (l.map bl)
def OBl (l : List (List UInt8)) (v : Value) (Hs : Heap) : Prop := OSl tBB 1 (l.map bl) v Hs
theorem bl1 (l : List (List UInt8)) : ∀ x ∈ l.map bl, x.cells.length = 1 := zk
theorem bl_ok (l : List (List UInt8)) : ∀ x ∈ l.map bl, x.solid := solid_map _ (fun _ => .inl rfl) _
theorem OBl.len {l : List (List UInt8)} {v : Value} {Hs : Heap} (h : OBl l v Hs) : ∃ p c, v = .slice p (l.map bl).length c := OSl.len h
def Stop (t : List UInt8) : Prop := t.length < 8 ∨ 4194304 < numF t ∨ (t.length : Int) - 8 < numF t
theorem frms_next (l : List (List UInt8)) {k : Nat} (hk : k < l.length) : (l.take (k + 1)).flatMap frmB = (l.take k).flatMap frmB ++ frmB l[k] := by
  rw [List.take_succ_eq_append_getElem hk, List.flatMap_append]
  simp
theorem frms_split (l : List (List UInt8)) (k : Nat) (t : List UInt8) : (l.flatMap frmB ++ t).drop ((l.take k).flatMap frmB).length = (l.drop k).flatMap frmB ++ t := by
  conv => lhs; rw [← List.take_append_drop k l]
  rw [List.flatMap_append, List.append_assoc, List.take_append_drop, List.drop_left' rfl]
theorem frms_le (l : List (List UInt8)) (k : Nat) : ((l.take k).flatMap frmB).length ≤ (l.flatMap frmB).length := by
  conv => rhs; rw [← List.take_append_drop k l]
  rw [List.flatMap_append, List.length_append]; omega
set_option maxHeartbeats 2000000 in
theorem scan_fn (l : List (List UInt8)) (tl : List UInt8) (hst : Stop tl) (hl : ∀ x ∈ l, x.length ≤ 4194304) (hb : (l.flatMap frmB ++ tl).length ≤ 100000000) : FnP Tryz.prog 95 [.sl false ((l.flatMap frmB ++ tl).map eb)] (fun r => r = .tup [tBl l, ei (l.flatMap frmB).length]) := by
  obtain ⟨B, hB⟩ : ∃ B, B = l.flatMap frmB ++ tl := ⟨_, rfl⟩
  rw [← hB] at hb ⊢
  have hcnt : l.length ≤ 100000000 := by
    have : l.length ≤ (l.flatMap frmB).length := by
      clear hl hB
      induction l with
      | nil => simp
      | cons x l ih => rw [List.flatMap_cons, List.length_append, frmB_len, List.length_cons]; omega
    rw [hB, List.length_append] at hb
    omega
  refine FnH.give (Φ := fun r H => ∃ v, r = .tup [.v v, ei (l.flatMap frmB).length] ∧ OBl l v H) ?_ (by rintro r H ⟨v, rfl, ho⟩; exact Lends.tup (LendsL.cons (OSl.lend ho (fun _ h => h) (bl1 _) (bl_ok _)) (LendsL.cons (Lends.le (Le.refl _)) LendsL.nil)))
  refine fn_enter Tryz.func95 (by rfl) (by rfl) ?_
  intro S0 w0
  show Sim _ _ [(0, .sl false (B.map eb))] _ _
  refine zC ?_
  apply cr
  refine s_ p_as ?_
  refine s_ p_as ?_
  refine zC ?_
  apply sim_loopL (σ := Nat × Value × Heap) (ok := fun s => s.1 ≤ l.length ∧ OBl (l.take s.1) s.2.1 s.2.2) (env := fun s => [(2, .v s.2.1), (3, ei ((l.take s.1).flatMap frmB).length), (0, .sl false (B.map eb))]) (heap := fun s => s.2.2) (μ := fun s => l.length + 1 - s.1) (s0 := (0, .slice none 0 0, []))
  · exact ⟨Nat.zero_le _, osl_nil⟩
  · exact eL
  · exact kR
  rintro ⟨k, v, H⟩ ⟨hk, ho⟩
  simp only at hk ho
  show Sim _ _ [(2, .v v), (3, ei ((l.take k).flatMap frmB).length), (0, .sl false (B.map eb))] H _
  have hsp := frms_split l k tl
  rw [← hB] at hsp
  have hle := frms_le l k
  have hBl : (l.flatMap frmB).length ≤ B.length := by rw [hB, List.length_append]; omega
  obtain ⟨p, c, rfl⟩ := ho.len
  by_cases hkl : k < l.length
  · obtain ⟨x, hx⟩ : ∃ x, x = l[k] := ⟨_, rfl⟩
    obtain ⟨rest, hrest⟩ : ∃ rest, rest = (l.drop (k + 1)).flatMap frmB ++ tl := ⟨_, rfl⟩
    have htodo : (l.drop k).flatMap frmB ++ tl = frmB x ++ rest := by
      rw [List.drop_eq_getElem_cons hkl, List.flatMap_cons, List.append_assoc, ← hrest, ← hx]
    rw [htodo] at hsp
    have hxl : x.length ≤ 4194304 := hl x (by rw [hx]; exact List.getElem_mem hkl)
    have hfl := frmB_len x
    have h1 := number4_fn false (frmB x ++ rest) (by rw [List.length_append]; omega)
    rw [frmB_num hxl rest] at h1
    have h2 := crc_fn false x (by omega)
    have h3 := number4_fn false ((frmB x ++ rest).drop 4) (by rw [List.length_drop, List.length_append]; omega)
    rw [frmB_crc x rest] at h3
    have h4 := cloneB_fnD false x (by omega)
    have hnx := frms_next l hkl
    rw [← hx] at hnx
    have htot : (frmB x ++ rest).length ≤ 100000000 := by rw [← hsp, List.length_drop]; omega
    refine zC ?_
    apply cr
    refine s_ p_mv ?_
    refine s_ p_mv ?_
    refine s_ (p_s0lE (i := ((((l.take k).flatMap frmB).length : Nat) : Int)) (xs := B.map eb) (ys := (frmB x ++ rest).map eb) (by rw [← hsp, List.map_drop]; rfl)) ?_
    refine s_ p_as ?_
    refine zC ?_
    apply cr
    refine s_ p_mv ?_
    (first | refine s_ p_ln ?_ | refine s_ p_lr ?_)
    refine s_ p_lt ?_
    refine zC ?_
    refine ci ?_ ?_
    · intro h; exact absurd h (by simp only [List.length_map, List.length_append]; omega)
    intro _
    refine zC ?_
    apply cr
    refine s_ p_mv ?_
    refine s_ (p_ca (h1)) ?_
    refine s_ p_as ?_
    refine zC ?_
    refine zC ?_
    apply cr
    refine s_ p_mv ?_
    refine s_ p_gt ?_
    refine s_ p_mv ?_
    refine gF (fun hg => p_mv) ?_
    refine gF (fun hg => p_cv (hx := u_ hg)) ?_
    refine gF (fun hg => p_mv) ?_
    (first | refine gF (fun hg => p_ln (hx := u_ hg)) ?_ | refine gF (fun hg => p_lr (hx := u_ hg)) ?_)
    refine gF (fun hg => p_su (hx := u_ hg)) ?_
    refine gF (fun hg => p_gt (hx := u_ hg) (hy := u_ hg)) ?_
    refine s_ p_or ?_
    refine zC ?_
    refine ci ?_ ?_
    · intro h
      rw [wrap_i64 (a := ((x.length : Nat) : Int)) (by omega) (by omega)] at h
      exact absurd h (by simp only [List.length_map, List.length_append]; omega)
    intro _
    refine zC ?_
    apply cr
    refine s_ p_mv ?_
    refine s_ p_mv ?_
    refine s_ p_adw ?_
    rw [wrap_u32 (a := 8 + ((x.length : Nat) : Int)) (by omega) (by omega)]
    refine s_ (p_s0bE (i := 8) (j := 8 + ((x.length : Nat) : Int)) (xs := (frmB x ++ rest).map eb) (ys := x.map eb) (by
      rw [← List.map_drop, ← List.map_take, show (8 : Int).toNat = 8 from rfl, frmB_drop, show (8 + ((x.length : Nat) : Int)).toNat - 8 = x.length by omega, List.take_left' rfl]) (h2 := by simp only [List.length_map, List.length_append]; omega)) ?_
    refine s_ p_as ?_
    refine zC ?_
    refine zC ?_
    refine ca [0, 1, 2, 3, 4, 5] [] ?_
    refine a_ (fun _ => p_mv) ?_
    refine a_ (fun _ => p_ca (h2)) ?_
    refine a_ (fun _ => p_mv) ?_
    refine a_ (fun _ => p_s0lE (i := 4) (xs := (frmB x ++ rest).map eb) (ys := ((frmB x ++ rest).drop 4).map eb) (by rw [List.map_drop]; rfl) (h2 := by simp only [List.length_map, List.length_append]; omega)) ?_
    refine a_ (fun _ => p_ca (h3)) ?_
    refine a_ (fun _ => p_ne) ?_
    apply an
    refine zC ?_
    refine ci ?_ ?_
    · intro h; exact absurd rfl h
    intro _
    refine zC ?_
    apply cr
    refine s_ p_mv ?_
    refine s_ p_mv ?_
    refine s_ (p_ca (h4)) ?_
    refine s_ p_bs ?_
    refine e_os (ho := ho) (A := []) (B := []) (ys := [bl x]) (f := true) (bl1 _) (fun v' Hs' ho' => ?_) (hH := by simp)
    obtain ⟨p', c', rfl⟩ := ho'.len
    refine s_ p_as ?_
    refine zC ?_
    apply cr
    refine s_ p_mv ?_
    refine s_ p_mv ?_
    refine s_ p_cv ?_
    rw [wrap_i64 (a := ((x.length : Nat) : Int)) (by omega) (by omega)]
    refine s_ p_ad ?_
    refine s_ p_ad ?_
    refine s_ p_as ?_
    refine zC ?_
    refine ⟨(k + 1, .slice p' (List.map bl (List.take k l) ++ [bl x]).length c', Hs'), ⟨by simp only; omega, ?_⟩, (by simp only []; omega), ⟨?_, ?_, eL⟩, by simp only [List.nil_append, List.append_nil]; exact kR⟩
    · simp only
      rw [List.take_succ_eq_append_getElem hkl, ← hx]
      unfold OBl
      rw [List.map_append]
      exact ho'
    · apply le_get; ((repeat (apply gS; rfl)); exact gZ)
      exact Le.refl _
    · apply le_get; ((repeat (apply gS; rfl)); exact gZ)
      simp only
      rw [hnx, List.length_append, hfl]
      exact Le.of_eq (by simp [ei])
  · have hke : k = l.length := by omega
    subst hke
    rw [List.drop_length, List.flatMap_nil, List.nil_append] at hsp
    rw [List.take_length] at hsp hle ho
    rw [List.take_length]
    have hbb : B.length = (l.flatMap frmB).length + tl.length := by rw [hB, List.length_append]
    refine zC ?_
    apply cr
    refine s_ p_mv ?_
    refine s_ p_mv ?_
    refine s_ (p_s0lE (i := (((l.flatMap frmB).length : Nat) : Int)) (xs := B.map eb) (ys := tl.map eb) (by rw [← hsp, List.map_drop]; rfl)) ?_
    refine s_ p_as ?_
    refine zC ?_
    apply cr
    refine s_ p_mv ?_
    (first | refine s_ p_ln ?_ | refine s_ p_lr ?_)
    refine s_ p_lt ?_
    refine zC ?_
    refine ci ?_ ?_
    · intro _
      refine zC ?_
      apply cr
      refine s_ p_mv ?_
      refine s_ p_mv ?_
      refine s_ p_as ?_
      refine s_ p_as ?_
      refine zC ?_
      refine zR ?_
      exact rh kR ⟨_, rfl, ho⟩ (Le.refl _)
    intro h8
    have h8' : 8 ≤ tl.length := by simp only [List.length_map] at h8; omega
    have hr := numF_range tl (by omega)
    have h1 := number4_fn false tl (by omega)
    refine zC ?_
    apply cr
    refine s_ p_mv ?_
    refine s_ (p_ca (h1)) ?_
    refine s_ p_as ?_
    refine zC ?_
    refine zC ?_
    apply cr
    refine s_ p_mv ?_
    refine s_ p_gt ?_
    refine s_ p_mv ?_
    refine gF (fun hg => p_mv) ?_
    refine gF (fun hg => p_cv (hx := u_ hg)) ?_
    refine gF (fun hg => p_mv) ?_
    (first | refine gF (fun hg => p_ln (hx := u_ hg)) ?_ | refine gF (fun hg => p_lr (hx := u_ hg)) ?_)
    refine gF (fun hg => p_su (hx := u_ hg)) ?_
    refine gF (fun hg => p_gt (hx := u_ hg) (hy := u_ hg)) ?_
    refine s_ p_or ?_
    refine zC ?_
    refine ci ?_ ?_
    · intro _
      refine zC ?_
      apply cr
      refine s_ p_mv ?_
      refine s_ p_mv ?_
      refine s_ p_as ?_
      refine s_ p_as ?_
      refine zC ?_
      refine zR ?_
      exact rh kR ⟨_, rfl, ho⟩ (Le.refl _)
    · intro h
      refine absurd ?_ h
      rw [wrap_i64 (by omega) (by omega), List.length_map]
      rcases hst with h | h | h
      · omega
      · exact .inl h
      · exact .inr h
end Go.Proofs.YtjbokbikkcfjjaaGreat
end
