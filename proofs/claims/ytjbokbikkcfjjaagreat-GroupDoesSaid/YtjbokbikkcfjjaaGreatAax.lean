/-
  journal: Add, Snap, Count.
  journal.Open.
  keep: a kept replica: write.
  keep: a kept replica: keep, sent, put.
  keep: a kept replica: its faces.
-/
import Derived.Test.YtjbokbikkcfjjaaGreatAaw
import Derived.Test.YtjbokbikkcfjjaaGreatAao
import Derived.Test.YtjbokbikkcfjjaaGreatAav
section
set_option maxRecDepth 16000
namespace Go.Proofs.YtjbokbikkcfjjaaGreat
open Go.Cap
set_option linter.unusedSimpArgs false
set_option linter.unusedVariables false
attribute [local irreducible] POp SimFrom DrawFrom EOp Sim FnH T.gp
def tJ : TypeId := 157
def JrH (bj bd : Nat) (n : Int) (d : Dk) : Heap := (bj, ⟨tJ, [pW bd, ei n], 2⟩) :: DkH bd d
theorem count_fn (bj bd : Nat) (n : Int) (d : Dk) : FnH Tryz.prog 161 [pW bj] (JrH bj bd n d) (fun r H => r = ei n ∧ H = JrH bj bd n d) := by
  refine fn_enter Tryz.func161 (by rfl) (by rfl) ?_
  intro S0 w0
  show Sim _ _ [(0, pW bj)] (JrH bj bd n d) _
  unfold JrH
  refine zC ?_
  apply cr
  refine s_ p_as ?_
  refine zC ?_
  apply cr
  refine s_ p_mv ?_
  refine s_ p_nc ?_
  refine s_ p_fr ?_
  refine s_ p_lo ?_
  refine s_ p_as ?_
  refine zC ?_
  refine zR ?_
  exact rh kR ⟨rfl, rfl⟩ (Le.refl _)
def jaddF (n : Int) (d : Dk) (x : List UInt8) : Int × Dk × Int :=
  let a := appF d (frmB x)
  if a.2 = 0 then let s := syncF a.1; if s.2 = 0 then (n + 1, s.1, 0) else (n, s.1, s.2) else (n, a.1, a.2)
theorem jadd_fn (bj bd : Nat) (n : Int) (d : Dk) (x : List UInt8) (hd : DkOk d) (hd2 : DkOk (appF d (frmB x)).1) (hx : x.length ≤ 4194304) (h0 : 0 ≤ n) (h1 : n ≤ 1000) :
    FnH Tryz.prog 162 [pW bj, bl x] (JrH bj bd n d) (fun r H => r = ei (jaddF n d x).2.2 ∧ H = JrH bj bd (jaddF n d x).1 (jaddF n d x).2.1) := by
  have hf := frame_fn false x hx
  have hfl := frmB_len x
  have ha := disk_app_fn bd d (frmB x) hd (by omega)
  have hs := sync_fn bd (appF d (frmB x)).1 hd2
  obtain ⟨⟨d1, e1⟩, hap⟩ : ∃ a, appF d (frmB x) = a := ⟨_, rfl⟩
  obtain ⟨⟨d2, e2⟩, hsy⟩ : ∃ a, syncF d1 = a := ⟨_, rfl⟩
  rw [hap] at ha hs
  simp only at ha hs
  rw [hsy] at hs
  simp only at hs
  have hA : jaddF n d x = if e1 = 0 then (if e2 = 0 then (n + 1, d2, 0) else (n, d2, e2)) else (n, d1, e1) := by
    unfold jaddF
    rw [hap]
    simp only
    rw [hsy]
  rw [hA]
  refine fn_enter Tryz.func162 (by rfl) (by rfl) ?_
  intro S0 w0
  show Sim _ _ [(0, pW bj), (1, bl x)] (JrH bj bd n d) _
  unfold JrH
  refine zC ?_
  apply cr
  refine s_ p_as ?_
  refine zC ?_
  apply cr
  refine s_ p_mv ?_
  refine s_ (p_ca (hf)) ?_
  refine s_ p_mv ?_
  refine s_ p_ex ?_
  refine s_ p_ex ?_
  refine s_ p_as ?_
  refine s_ p_as ?_
  refine zC ?_
  refine zC ?_
  apply cr
  refine s_ p_mv ?_
  refine s_ p_eq ?_
  refine zC ?_
  refine ci ?_ ?_
  rotate_left
  · intro h; exact absurd rfl h
  intro _
  refine zC ?_
  apply cr
  refine s_ p_mv ?_
  refine s_ p_nc ?_
  refine s_ p_fr ?_
  refine s_ p_lo ?_
  refine s_ p_mv ?_
  refine e_cH (Hr := [_]) ha (List.perm_append_comm (l₁ := [_])) (fun r H' ⟨hr1, hr2⟩ => ?_)
  subst hr1 hr2
  refine from_perm List.perm_append_comm ?_
  refine s_ p_as ?_
  refine zC ?_
  apply cr
  refine s_ p_mv ?_
  refine s_ p_eq ?_
  refine zC ?_
  refine ci ?_ ?_
  · intro he1
    have he1' : e1 = 0 := he1
    rw [if_pos he1']
    refine zC ?_
    apply cr
    refine s_ p_mv ?_
    refine s_ p_nc ?_
    refine s_ p_fr ?_
    refine s_ p_lo ?_
    refine e_cH (Hr := [_]) hs (List.perm_append_comm (l₁ := [_])) (fun r H' ⟨hr1, hr2⟩ => ?_)
    subst hr1 hr2
    refine from_perm List.perm_append_comm ?_
    refine s_ p_as ?_
    refine zC ?_
    apply cr
    refine s_ p_mv ?_
    refine s_ p_eq ?_
    refine zC ?_
    refine ci ?_ ?_
    · intro he2
      have he2' : e2 = 0 := he2
      rw [if_pos he2']
      subst he2'
      refine zC ?_
      apply cr
      refine s_ p_mv ?_
      refine s_ p_nc ?_
      refine s_ p_fr ?_
      refine s_ p_lo ?_
      refine s_ p_ad ?_
      refine s_ p_nc ?_
      refine s_ p_fr ?_
      refine e_st ?_
      refine zC ?_
      apply cr
      refine s_ p_mv ?_
      refine s_ p_as ?_
      refine zC ?_
      refine zR ?_
      exact rh kR ⟨rfl, rfl⟩ (Le.refl _)
    · intro he2
      have he2' : ¬ e2 = 0 := he2
      rw [if_neg he2']
      refine zC ?_
      apply cr
      refine s_ p_mv ?_
      refine s_ p_as ?_
      refine zC ?_
      refine zR ?_
      exact rh kR ⟨rfl, rfl⟩ (Le.refl _)
  · intro he1
    have he1' : ¬ e1 = 0 := he1
    rw [if_neg he1']
    refine zC ?_
    apply cr
    refine s_ p_mv ?_
    refine s_ p_eq ?_
    refine zC ?_
    refine ci ?_ ?_
    · intro h; exact absurd h he1
    intro _
    refine zC ?_
    apply cr
    refine s_ p_mv ?_
    refine s_ p_as ?_
    refine zC ?_
    refine zR ?_
    exact rh kR ⟨rfl, rfl⟩ (Le.refl _)
def jsnapF (n : Int) (d : Dk) (x : List UInt8) : Int × Dk × Int := let a := swapF d (frmB x); if a.2 = 0 then (0, a.1, 0) else (n, a.1, a.2)
theorem jsnap_fn (bj bd : Nat) (n : Int) (d : Dk) (x : List UInt8) (hd : DkOk d) (hx : x.length ≤ 4194304) :
    FnH Tryz.prog 163 [pW bj, bl x] (JrH bj bd n d) (fun r H => r = ei (jsnapF n d x).2.2 ∧ H = JrH bj bd (jsnapF n d x).1 (jsnapF n d x).2.1) := by
  have hf := frame_fn false x hx
  have hfl := frmB_len x
  have ha := swap_fn bd d (frmB x) hd (by omega)
  obtain ⟨⟨d1, e1⟩, hap⟩ : ∃ a, swapF d (frmB x) = a := ⟨_, rfl⟩
  rw [hap] at ha
  simp only at ha
  have hA : jsnapF n d x = if e1 = 0 then (0, d1, 0) else (n, d1, e1) := by
    unfold jsnapF
    rw [hap]
  rw [hA]
  refine fn_enter Tryz.func163 (by rfl) (by rfl) ?_
  intro S0 w0
  show Sim _ _ [(0, pW bj), (1, bl x)] (JrH bj bd n d) _
  unfold JrH
  refine zC ?_
  apply cr
  refine s_ p_as ?_
  refine zC ?_
  apply cr
  refine s_ p_mv ?_
  refine s_ (p_ca (hf)) ?_
  refine s_ p_mv ?_
  refine s_ p_ex ?_
  refine s_ p_ex ?_
  refine s_ p_as ?_
  refine s_ p_as ?_
  refine zC ?_
  refine zC ?_
  apply cr
  refine s_ p_mv ?_
  refine s_ p_eq ?_
  refine zC ?_
  refine ci ?_ ?_
  rotate_left
  · intro h; exact absurd rfl h
  intro _
  refine zC ?_
  apply cr
  refine s_ p_mv ?_
  refine s_ p_nc ?_
  refine s_ p_fr ?_
  refine s_ p_lo ?_
  refine s_ p_mv ?_
  refine e_cH (Hr := [_]) ha (List.perm_append_comm (l₁ := [_])) (fun r H' ⟨hr1, hr2⟩ => ?_)
  subst hr1 hr2
  refine from_perm List.perm_append_comm ?_
  refine s_ p_as ?_
  refine zC ?_
  apply cr
  refine s_ p_mv ?_
  refine s_ p_eq ?_
  refine zC ?_
  refine ci ?_ ?_
  · intro he1
    have he1' : e1 = 0 := he1
    rw [if_pos he1']
    subst he1'
    refine zC ?_
    apply cr
    refine s_ p_mv ?_
    refine s_ p_nc ?_
    refine s_ p_fr ?_
    refine e_st ?_
    refine zC ?_
    apply cr
    refine s_ p_mv ?_
    refine s_ p_as ?_
    refine zC ?_
    refine zR ?_
    exact rh kR ⟨rfl, rfl⟩ (Le.refl _)
  · intro he1
    have he1' : ¬ e1 = 0 := he1
    rw [if_neg he1']
    refine zC ?_
    apply cr
    refine s_ p_mv ?_
    refine s_ p_as ?_
    refine zC ?_
    refine zR ?_
    exact rh kR ⟨rfl, rfl⟩ (Le.refl _)
end Go.Proofs.YtjbokbikkcfjjaaGreat
end
section
set_option maxRecDepth 16000
namespace Go.Proofs.YtjbokbikkcfjjaaGreat
open Go.Cap
set_option linter.unusedSimpArgs false
set_option linter.unusedVariables false
attribute [local irreducible] POp SimFrom DrawFrom EOp Sim FnH T.gp
attribute [local irreducible] SimD SimFromD
def snapB : Option (List UInt8) → List UInt8
  | none => []
  | some s => frmB s
def openD (d : Dk) (l : List (List UInt8)) (tl : List UInt8) : Dk := if tl = [] then d else { d with log := l.flatMap frmB, synced := (l.flatMap frmB).length }
theorem open1_fn {H : Heap} {b5 : Nat} (v2 v3 v4 : Value) (hm : (b5, (⟨25, [ei 0], 1⟩ : Blk)) ∈ H) : DfH Tryz.prog 91 #[.pointer (some ⟨b5, 0, none⟩), v2, v3, v4] H (fun H' => H' = H) := by
  refine dfH_enter Tryz.func91 (vs := [.pointer (some ⟨b5, 0, none⟩), v2, v3, v4]) (by rfl) (by rfl) (by rfl) ?_
  intro S0 w0
  show Sim _ _ [(0, pW b5), (1, .v v2), (2, .v v3), (3, .v v4)] H _
  refine zC ?_
  apply cr
  refine s_ (p_lo (hi := hm)) ?_
  refine s_ p_ne ?_
  refine zC ?_
  refine ci ?_ ?_
  · intro h; exact absurd rfl h
  intro _
  refine zC ?_
  exact ⟨.inl rfl, _, kR, rfl⟩
theorem spend_up {d : Dk} (hdead : d.dead = false) (hleft : d.left = 0) : spendF d = (d, true) := by
  unfold spendF
  rw [if_neg (by omega), hdead]
  rfl
theorem cut_open {d : Dk} {l : List (List UInt8)} {tl : List UInt8} (hdead : d.dead = false) (hleft : d.left = 0) (hlog : d.log = l.flatMap frmB ++ tl) (htl : tl ≠ []) : cutF d ((l.flatMap frmB).length : Nat) = (openD d l tl, 0) := by
  have ht : d.log.take (((l.flatMap frmB).length : Nat) : Int).toNat = l.flatMap frmB := by rw [hlog, Int.toNat_natCast, List.take_left' rfl]
  have hle : (l.flatMap frmB).length ≤ d.log.length := by rw [hlog, List.length_append]; omega
  unfold cutF openD
  rw [spend_up hdead hleft, hdead, ht, if_neg (by simp), if_neg (by omega), if_neg htl, if_pos (.inl rfl), if_pos rfl]
  simp [hdead]
set_option maxHeartbeats 2000000 in
theorem openJ_fn (bd : Nat) (d : Dk) (so : Option (List UInt8)) (l : List (List UInt8)) (tl : List UInt8) (hd : DkOk d) (hdead : d.dead = false) (hleft : d.left = 0) (hso : d.snap = snapB so) (hsl : ∀ s, so = some s → s.length ≤ 4194304) (hlog : d.log = l.flatMap frmB ++ tl) (hst : Stop tl) (hl : ∀ x ∈ l, x.length ≤ 4194304) :
    FnH Tryz.prog 65 [pW bd] (DkH bd d) (fun r H => ∃ bj, r = .tup [pW bj, bl (so.getD []), tBl l, ei 0] ∧ H = JrH bj bd l.length (openD d l tl)) := by
  have hu := hd.used
  have hde := dead_fn bd d
  rw [hdead] at hde
  have hsn := dsnap_fn bd d hd
  have hlg := dlog_fn bd d hd
  have hsc := scan_fn l tl hst hl (by rw [← hlog]; omega)
  rw [← hlog] at hsc
  have hct := cut_fn bd d ((l.flatMap frmB).length : Nat) hd
  refine fn_enterD Tryz.func65 (by rfl) (by rfl) ?_
  intro S0 w0 hw0
  show SimD _ _ _ [(0, pW bd)] (DkH bd d) _
  refine simD_seq ?_
  refine zC ?_
  apply cr
  refine e_al fun b2 _ => ?_
  refine e_al fun b3 _ => ?_
  refine e_al fun b4 _ => ?_
  refine e_al fun b5 _ => ?_
  refine zC ?_
  refine ⟨rfl, ?_⟩
  refine simD_seq ?_
  refine zC ?_
  apply cr
  refine s_ p_mv ?_
  refine s_ p_nc ?_
  refine s_ p_fr ?_
  refine e_cH (Hr := [_, _, _, _]) hde (List.perm_append_comm (l₁ := [_, _, _, _])) (fun r H' ⟨hr1, hr2⟩ => ?_)
  subst hr1 hr2
  refine zC ?_
  refine ci (p := False) (fun h => h.elim) (fun _ => ?_)
  refine zC ?_
  refine ⟨rfl, ?_⟩
  refine simD_region ?_
  refine d_s p_mf ?_
  refine d_defer [.pointer (some ⟨b5, 0, none⟩), .pointer (some ⟨b2, 0, none⟩), .pointer (some ⟨b3, 0, none⟩), .pointer (some ⟨b4, 0, none⟩)] ?_ rfl rfl (zl)
  refine simD_end hw0 ?_
  refine zC ?_
  apply cr
  refine s_ p_mv ?_
  refine e_cH (Hr := [_, _, _, _]) hsn (.refl _) (fun r H' ⟨hr1, hr2⟩ => ?_)
  subst hr1 hr2
  refine s_ p_as ?_
  refine zC ?_
  apply cr
  refine s_ p_mv ?_
  (first | refine s_ p_ln ?_ | refine s_ p_lr ?_)
  refine s_ p_gt ?_
  refine zC ?_
  refine sim_cut [(0, pW bd), (2, pW b2), (3, pW b3), (4, pW b4), (5, pW b5)] (DkH bd d ++ [(b5, ⟨25, [ei 0], 1⟩), (b4, ⟨117, [.v (.slice none 0 0)], 1⟩), (b3, ⟨34, [bl (so.getD [])], 1⟩), (b2, ⟨91, [.v (.pointer none)], 1⟩)]) ?_ ?_
  · refine ci ?_ ?_
    · intro hpos
      rcases so with _ | s
      · exact absurd hpos (by rw [hso]; simp [snapB])
      have h1 := one_fn s (hsl s rfl)
      have hso' : d.snap = frmB s := hso
      rw [hso']
      refine zC ?_
      apply cr
      refine s_ p_mv ?_
      refine s_ (p_ca (h1)) ?_
      refine s_ p_mv ?_
      refine s_ p_ex ?_
      refine s_ p_ex ?_
      refine e_st ?_
      refine e_st ?_
      refine zC ?_
      apply cr
      refine s_ p_lo ?_
      refine s_ p_ne ?_
      refine zC ?_
      refine ci ?_ ?_
      · intro h; exact absurd rfl h
      intro _
      refine zC ?_
      exact ⟨eL, kR⟩
    · intro hpos
      rcases so with _ | s
      · refine zC ?_
        exact ⟨eL, kH (kK (kK (kK kR)))⟩
      · refine absurd ?_ hpos
        have := frmB_len s
        have hso' : d.snap = frmB s := hso
        rw [hso', List.length_map]; omega
  refine zC ?_
  apply cr
  refine s_ p_mv ?_
  refine e_cH (Hr := [_, _, _, _]) hlg (.refl _) (fun r H' ⟨hr1, hr2⟩ => ?_)
  subst hr1 hr2
  refine s_ p_as ?_
  refine zC ?_
  apply cr
  refine s_ p_mv ?_
  refine s_ (p_ca (hsc)) ?_
  refine s_ p_mv ?_
  refine s_ p_ex ?_
  refine s_ p_ex ?_
  refine e_st ?_
  refine s_ p_as ?_
  refine zC ?_
  apply cr
  refine s_ p_mv ?_
  refine s_ p_mf ?_
  refine s_ p_as ?_
  refine zC ?_
  apply cr
  refine s_ p_mv ?_
  refine s_ p_mv ?_
  (first | refine s_ p_ln ?_ | refine s_ p_lr ?_)
  refine s_ p_lt ?_
  refine zC ?_
  refine sim_cut [(0, pW bd), (2, pW b2), (3, pW b3), (4, pW b4), (5, pW b5)] (DkH bd (openD d l tl) ++ [(b5, ⟨25, [ei 0], 1⟩), (b4, ⟨117, [tBl l], 1⟩), (b3, ⟨34, [bl (so.getD [])], 1⟩), (b2, ⟨91, [.v (.pointer none)], 1⟩)]) ?_ ?_
  · refine ci ?_ ?_
    · intro hlt
      have htl : tl ≠ [] := by
        rintro rfl
        rw [hlog, List.append_nil, List.length_map] at hlt
        omega
      have hcf := cut_open hdead hleft hlog htl
      rw [hcf] at hct
      refine zC ?_
      apply cr
      refine s_ p_mv ?_
      refine s_ p_mv ?_
      refine e_vH (fs := [pW bd]) (args := [ei ((l.flatMap frmB).length : Nat)]) (cs := []) hct (Hr := [_, _, _, _]) (.refl _) (fun r H' ⟨hr1, hr2⟩ => ?_)
      subst hr1 hr2
      refine e_st ?_
      refine zC ?_
      exact ⟨eL, kR⟩
    · intro hge
      have htl : tl = [] := by
        rw [hlog, List.length_map, List.length_append] at hge
        exact List.length_eq_zero_iff.1 (by omega)
      have ho : openD d l tl = d := if_pos htl
      rw [ho]
      refine zC ?_
      exact ⟨eL, kR⟩
  refine zC ?_
  refine ca [0, 1, 2, 3, 5, 6, 7, 4, 8, 9, 10, 11] [4, 8, 9, 10, 11] ?_
  refine a_ (fun _ => p_mv) ?_
  refine a_lo ?_
  (first | refine a_ (fun _ => p_ln) ?_ | refine a_ (fun _ => p_lr) ?_)
  refine a_ (fun _ => p_bd 2 [_, _]) ?_
  refine a_lo ?_
  refine a_lo ?_
  refine a_lo ?_
  refine a_bx fun b47 _ => ⟨zd, ?_⟩
  refine a_st ?_
  refine a_st ?_
  refine a_st ?_
  refine a_st ?_
  apply an
  refine zC ?_
  apply sim_ret
  refine ⟨_, open1_fn _ _ _ (zm), ?_⟩
  rintro H1 rfl
  refine ⟨_, _, JrH b47 bd l.length (openD d l tl), zrs, Le.refl _, ⟨b47, rfl, rfl⟩, HeapFront.le ?_⟩
  refine .keep _ _ _ _ _ ?_ (.keep _ _ _ _ _ (BlkLe.refl _) (.nil _))
  refine blk_le rfl ?_ rfl rfl
  refine LeL.cons (Le.refl _) (LeL.cons (Le.of_eq ?_) LeL.nil)
  rw [List.length_map]
  rfl
end Go.Proofs.YtjbokbikkcfjjaaGreat
end
section
set_option maxRecDepth 16000
namespace Go.Cap
section
variable {K : Ctx} {t : Env} {H Hs Hr : Heap} {N : Env → Heap → Prop} {ops : Array Oper} {i : Nat} {tp : TypeId} {pos : String} {aft : Array Edge} {kd : Tmp} {eff : List Nat} {pend : List Pend} {al : List (Nat × Oper)}
theorem a_cHr {f : FuncId} {xs : Array Operand} {ats : Array TypeId} {args : List T} {Φ : T → Heap → Prop} (hf : FnH K.P f args Hs Φ) (hp : H.Perm (Hs ++ Hr))
    (hn : ∀ r H', Φ r H' → PendOk ops ⟨some kd, .call ⟨.value (.func f), xs, ats⟩, tp, pos, aft, none⟩ (H' ++ Hr) pend ∧ ∃ pend', PDrop ops ⟨some kd, .call ⟨.value (.func f), xs, ats⟩, tp, pos, aft, none⟩ pend pend' ∧ AnyFrom K ops eff N al ((kd, r) :: t) (H' ++ Hr) pend') (hc : callable K.P f = true := by rfl) (ha' : autoParam (EvL t xs.toList args) ze._auto_1) (hd : Nat.blt kd K.n = true := by rfl) (he : memN eff i = true := by rfl) :
    AnyFrom K ops eff N ((i, ⟨some kd, .call ⟨.value (.func f), xs, ats⟩, tp, pos, aft, none⟩) :: al) t H pend :=
  a_effP (fun _ h1 => eop_callH (Hr := Hr) hf hp hc (ha'.trans fun x hx => h1 x (by simp [Op.operands, Call.operands]; exact .inr (by simpa using hx))) (by simpa [okDst] using hd) fun r H' hr' => by
    obtain ⟨h1, p', h2, h3⟩ := hn r H' hr'
    exact ⟨_, p', rfl, h1, h2, h3⟩) he
end
end Go.Cap
namespace Go.Proofs.YtjbokbikkcfjjaaGreat
open Go.Cap
set_option linter.unusedSimpArgs false
set_option linter.unusedVariables false
attribute [local irreducible] POp SimFrom DrawFrom EOp Sim FnH T.gp
structure DkR (d : Dk) : Prop where
  l0 : 0 ≤ d.left
  l1 : d.left ≤ 1000000000
  r0 : 0 ≤ d.room
  r1 : d.room ≤ 16777216
  fit : ((d.log.length + d.snap.length : Nat) : Int) ≤ d.room
theorem DkR.ok {d : Dk} (h : DkR d) : DkOk d := ⟨h.l0, h.l1, h.r0, h.r1, by have := h.fit; have := h.r1; omega⟩
theorem DkR.spend {d : Dk} (h : DkR d) : DkR (spendF d).1 := by
  have h0 := h.l0
  have h1 := h.l1
  unfold spendF
  split
  · exact ⟨by simp only; omega, by simp only; omega, h.r0, h.r1, h.fit⟩
  · exact h
theorem spend_log (d : Dk) : (spendF d).1.log = d.log ∧ (spendF d).1.snap = d.snap ∧ (spendF d).1.room = d.room := by
  unfold spendF
  split <;> exact ⟨rfl, rfl, rfl⟩
theorem DkR.app {d : Dk} (h : DkR d) (x : List UInt8) : DkR (appF d x).1 := by
  have hs := h.spend
  obtain ⟨e1, e2, e3⟩ := spend_log d
  unfold appF
  split
  · exact h
  · split
    · exact h
    · rename_i hf
      exact ⟨hs.l0, hs.l1, hs.r0, hs.r1, by simp only [e2, e3, List.length_append]; omega⟩
theorem DkR.sync {d : Dk} (h : DkR d) : DkR (syncF d).1 := by
  have hs := h.spend
  unfold syncF
  split
  · exact h
  · split
    · exact ⟨hs.l0, hs.l1, hs.r0, hs.r1, hs.fit⟩
    · exact hs
theorem DkR.swap {d : Dk} (h : DkR d) (x : List UInt8) : DkR (swapF d x).1 := by
  have hs := h.spend
  obtain ⟨e1, e2, e3⟩ := spend_log d
  unfold swapF
  split
  · exact h
  · split
    · exact h
    · rename_i hf
      split
      · exact ⟨hs.l0, hs.l1, hs.r0, hs.r1, by simp only [e3, List.length_nil]; omega⟩
      · exact hs
theorem DkR.jadd {n : Int} {d : Dk} (h : DkR d) (x : List UInt8) : DkR (jaddF n d x).2.1 := by
  unfold jaddF
  simp only
  split
  · split
    · exact (h.app _).sync
    · exact (h.app _).sync
  · exact h.app _
theorem DkR.jsnap {n : Int} {d : Dk} (h : DkR d) (x : List UInt8) : DkR (jsnapF n d x).2.1 := by
  unfold jsnapF
  simp only
  split <;> exact h.swap _
theorem jadd_n (n : Int) (d : Dk) (x : List UInt8) : (jaddF n d x).1 = n ∨ (jaddF n d x).1 = n + 1 := by
  unfold jaddF
  simp only
  split
  · split
    · exact .inr rfl
    · exact .inl rfl
  · exact .inl rfl
theorem jsnap_n (n : Int) (d : Dk) (x : List UInt8) : (jsnapF n d x).1 = n ∨ (jsnapF n d x).1 = 0 := by
  unfold jsnapF
  simp only
  split
  · exact .inr rfl
  · exact .inl rfl
structure Kp where
  n : Int
  N : Nd
  d : Dk
def tK : TypeId := 95
def KpH (bk bj bd : Nat) (K : Kp) : Heap := (bk, ⟨tK, pW bj :: nodeC K.N (.sl false (K.N.log.map een)), 23⟩) :: JrH bj bd K.n K.d
def wr1F (K : Kp) (x : List UInt8) : Int × Dk × Int := if K.n < 16 then jaddF K.n K.d x else (K.n, K.d, 19)
def writeF (K : Kp) (x : List UInt8) : Kp × Int :=
  let a := wr1F K x
  if ¬ a.2.2 = 19 ∨ a.1 = 0 then (⟨a.1, K.N, a.2.1⟩, a.2.2) else
  let s := jsnapF a.1 a.2.1 (recB K.N 0)
  if ¬ s.2.2 = 0 then (⟨s.1, K.N, s.2.1⟩, s.2.2) else
  let b := jaddF s.1 s.2.1 x
  (⟨b.1, K.N, b.2.1⟩, b.2.2)
set_option maxHeartbeats 2000000 in
theorem write_fn (bk bj bd : Nat) (K : Kp) (x : List UInt8) (hd : DkR K.d) (hN : Sz K.N) (hr : (recB K.N 0).length ≤ 4194304) (hx : x.length ≤ 4194304) (h0 : 0 ≤ K.n) (h1 : K.n ≤ 100) :
    FnH Tryz.prog 140 [pW bk, bl x] (KpH bk bj bd K) (fun r H => r = ei (writeF K x).2 ∧ H = KpH bk bj bd (writeF K x).1) := by
  obtain ⟨n, N, d⟩ := K
  simp only at hd hN hr h0 h1
  have hc1 := count_fn bj bd n d
  have ha1 := jadd_fn bj bd n d x hd.ok (hd.app _).ok hx h0 (by omega)
  obtain ⟨⟨na, da, ea⟩, hwa⟩ : ∃ a, wr1F ⟨n, N, d⟩ x = a := ⟨_, rfl⟩
  have hda : DkR da := by
    have : DkR (wr1F ⟨n, N, d⟩ x).2.1 := by
      unfold wr1F; split
      · exact hd.jadd x
      · exact hd
    rw [hwa] at this; exact this
  have hna : 0 ≤ na ∧ na ≤ 101 := by
    have : (wr1F ⟨n, N, d⟩ x).1 = n ∨ (wr1F ⟨n, N, d⟩ x).1 = n + 1 := by
      unfold wr1F; split
      · exact jadd_n n d x
      · exact .inl rfl
    rw [hwa] at this; simp only at this; omega
  have hc2 := count_fn bj bd na da
  have hby := bytes_fn N 0 hN (Nat.zero_le _)
  have hsn := jsnap_fn bj bd na da (recB N 0) hda.ok hr
  obtain ⟨⟨ns, ds, es'⟩, hws⟩ : ∃ a, jsnapF na da (recB N 0) = a := ⟨_, rfl⟩
  have hds : DkR ds := by
    have := hda.jsnap (n := na) (recB N 0)
    rw [hws] at this; exact this
  have hns : 0 ≤ ns ∧ ns ≤ 101 := by
    have := jsnap_n na da (recB N 0)
    rw [hws] at this; simp only at this; omega
  rw [hws] at hsn
  simp only at hsn
  have ha2 := jadd_fn bj bd ns ds x hds.ok (hds.app _).ok hx hns.1 (by omega)
  have hA : writeF ⟨n, N, d⟩ x = if ¬ ea = 19 ∨ na = 0 then (⟨na, N, da⟩, ea) else if ¬ es' = 0 then (⟨ns, N, ds⟩, es') else (⟨(jaddF ns ds x).1, N, (jaddF ns ds x).2.1⟩, (jaddF ns ds x).2.2) := by
    unfold writeF
    rw [hwa]
    simp only
    rw [hws]
  rw [hA]
  refine fn_enter Tryz.func140 (by rfl) (by rfl) ?_
  intro S0 w0
  show Sim _ _ [(0, pW bk), (1, bl x)] ((bk, ⟨tK, pW bj :: nodeC N (.sl false (N.log.map een)), 23⟩) :: JrH bj bd n d) _
  refine zC ?_
  apply cr
  refine s_ p_as ?_
  refine zC ?_
  apply cr
  refine s_ p_as ?_
  refine zC ?_
  apply cr
  refine s_ p_mv ?_
  refine s_ p_nc ?_
  refine s_ p_fr ?_
  refine s_ p_lo ?_
  refine e_cH (Hr := [_]) hc1 (List.perm_append_comm (l₁ := [_])) (fun r H' ⟨hr1, hr2⟩ => ?_)
  subst hr1 hr2
  refine from_perm List.perm_append_comm ?_
  refine s_ p_lt ?_
  refine zC ?_
  refine sim_cut [(0, pW bk), (1, bl x), (5, ei ea)] ((bk, ⟨tK, pW bj :: nodeC N (.sl false (N.log.map een)), 23⟩) :: JrH bj bd na da) ?_ ?_
  · refine ci ?_ ?_
    · intro hlt
      have hlt' : n < 16 := hlt
      have hw : jaddF n d x = (na, da, ea) := by rw [← hwa, wr1F, if_pos hlt']
      rw [hw] at ha1
      refine zC ?_
      apply cr
      refine s_ p_mv ?_
      refine s_ p_nc ?_
      refine s_ p_fr ?_
      refine s_ p_lo ?_
      refine s_ p_mv ?_
      refine e_cH (Hr := [_]) ha1 (List.perm_append_comm (l₁ := [_])) (fun r H' ⟨hr1, hr2⟩ => ?_)
      subst hr1 hr2
      refine from_perm List.perm_append_comm ?_
      refine s_ p_as ?_
      refine zC ?_
      exact ⟨eL, kR⟩
    · intro hlt
      have hlt' : ¬ n < 16 := hlt
      have hw : (n, d, (19 : Int)) = (na, da, ea) := by rw [← hwa, wr1F, if_neg hlt']
      simp only [Prod.mk.injEq] at hw
      obtain ⟨rfl, rfl, rfl⟩ := hw
      refine zC ?_
      exact ⟨eL, kR⟩
  by_cases hea : ea = 19
  · have hnn : ¬ ¬ ea = 19 := fun h => h hea
    refine zC ?_
    apply cr
    refine s_ p_mv ?_
    refine s_ p_ne ?_
    refine s_ p_mv ?_
    refine gF (fun hg => p_mv) ?_
    refine gF (fun hg => p_nc (hx := u_ hg)) ?_
    refine gF (fun hg => p_fr (hx := u_ hg)) ?_
    refine gF (fun hg => p_lo (hx := u_ hg)) ?_
    refine gF_cH (p := ¬ ea = 19) (Hr := [_]) hnn hc2 (List.perm_append_comm (l₁ := [_])) (fun r H' ⟨hr1, hr2⟩ => ?_) (ha' := evl_cons (u_ hnn) evl_nil)
    subst hr1 hr2
    refine from_perm List.perm_append_comm ?_
    refine gF (p := ¬ ea = 19) (fun hg => p_eq) ?_
    refine s_ p_or ?_
    refine zC ?_
    refine ci ?_ ?_
    · intro h
      rw [if_pos h]
      refine zC ?_
      apply cr
      refine s_ p_mv ?_
      refine s_ p_as ?_
      refine zC ?_
      refine zR ?_
      exact rh kR ⟨rfl, rfl⟩ (Le.refl _)
    intro h
    rw [if_neg h]
    refine zC ?_
    refine ca [0, 1, 2, 3, 4, 5, 6, 7, 8, 9, 10] [9] ?_
    refine a_ (fun _ => p_mv) ?_
    refine a_ (fun _ => p_nc) ?_
    refine a_ (fun _ => p_fr) ?_
    refine a_lo ?_
    refine a_ (fun _ => p_mv) ?_
    refine a_ (fun _ => p_nc) ?_
    refine a_ (fun _ => p_fr) ?_
    refine a_loa ?_
    refine a_ (fun _ => p_ca (hby)) ?_
    refine a_cHr (Hr := [_]) hsn (List.perm_append_comm (l₁ := [_])) (fun r H' ⟨hr1, hr2⟩ => ⟨?_, ?_⟩)
    · subst hr1 hr2; exact zd
    subst hr1 hr2
    refine zD ?_
    refine a_ (fun _ => p_as) ?_
    apply an
    refine zC ?_
    refine sim_perm List.perm_append_comm ?_
    refine zC ?_
    apply cr
    refine s_ p_mv ?_
    refine s_ p_ne ?_
    refine zC ?_
    refine ci ?_ ?_
    · intro he
      have he' : ¬ es' = 0 := he
      rw [if_pos he']
      refine zC ?_
      apply cr
      refine s_ p_mv ?_
      refine s_ p_as ?_
      refine zC ?_
      refine zR ?_
      exact rh kR ⟨rfl, rfl⟩ (Le.refl _)
    intro he
    have he' : ¬ ¬ es' = 0 := he
    rw [if_neg he']
    refine zC ?_
    apply cr
    refine s_ p_mv ?_
    refine s_ p_nc ?_
    refine s_ p_fr ?_
    refine s_ p_lo ?_
    refine s_ p_mv ?_
    refine e_cH (Hr := [_]) ha2 (List.perm_append_comm (l₁ := [_])) (fun r H' ⟨hr1, hr2⟩ => ?_)
    subst hr1 hr2
    refine from_perm List.perm_append_comm ?_
    refine s_ p_as ?_
    refine zC ?_
    refine zR ?_
    exact rh kR ⟨rfl, rfl⟩ (Le.refl _)
  · rw [if_pos (.inl hea)]
    refine zC ?_
    apply cr
    refine s_ p_mv ?_
    refine s_ p_ne ?_
    refine s_ p_mv ?_
    refine gF (fun hg => p_mv) ?_
    refine gF (fun hg => p_nc (hx := u_ hg)) ?_
    refine gF (fun hg => p_fr (hx := u_ hg)) ?_
    refine gF (fun hg => p_lo (hx := u_ hg)) ?_
    refine gF (p := ¬ ea = 19) (d := .any) (fun hg => absurd hea hg) ?_
    refine gF (p := ¬ ea = 19) (d := .v (.bool (decide False))) (fun hg => absurd hea hg) ?_
    refine s_ p_or ?_
    refine zC ?_
    refine ci ?_ ?_
    · intro _
      refine zC ?_
      apply cr
      refine s_ p_mv ?_
      refine s_ p_as ?_
      refine zC ?_
      refine zR ?_
      exact rh kR ⟨rfl, rfl⟩ (Le.refl _)
    · intro h; exact absurd (.inl hea) h
end Go.Proofs.YtjbokbikkcfjjaaGreat
end
section
set_option maxRecDepth 16000
namespace Go.Proofs.YtjbokbikkcfjjaaGreat
open Go.Cap
set_option linter.unusedSimpArgs false
set_option linter.unusedVariables false
attribute [local irreducible] POp SimFrom DrawFrom EOp Sim FnH T.gp
attribute [local irreducible] SimD SimFromD
def tN : TypeId := 44
def bxH (b6 b4 b3 bk : Nat) (e : Int) (t : Nd) : Heap := [(b6, ⟨25, [ei e], 1⟩), (b4, ⟨tN, nodeC t (.sl false (t.log.map een)), 22⟩), (b3, ⟨162, [pW bk], 1⟩)]
theorem kdef_fn (b6 b4 b3 bk bj bd : Nat) (e : Int) (t : Nd) (K : Kp) (ht : t.log.length ≤ 1000000000) :
    DfH Tryz.prog 138 #[.pointer (some ⟨b6, 0, none⟩), .pointer (some ⟨b4, 0, none⟩), .pointer (some ⟨b3, 0, none⟩)] (bxH b6 b4 b3 bk e t ++ KpH bk bj bd K) (fun H => H = bxH b6 b4 b3 bk e t ++ KpH bk bj bd (if e = 0 then { K with N := t } else K)) := by
  have ho := kown_fn t ht
  obtain ⟨n, N, d⟩ := K
  refine dfH_enter Tryz.func138 (vs := [.pointer (some ⟨b6, 0, none⟩), .pointer (some ⟨b4, 0, none⟩), .pointer (some ⟨b3, 0, none⟩)]) (by rfl) (by rfl) (by rfl) ?_
  intro S0 w0
  show Sim _ _ [(0, pW b6), (1, pW b4), (2, pW b3)] ((b6, ⟨25, [ei e], 1⟩) :: (b4, ⟨tN, nodeC t (.sl false (t.log.map een)), 22⟩) :: (b3, ⟨162, [pW bk], 1⟩) :: (bk, ⟨tK, pW bj :: nodeC N (.sl false (N.log.map een)), 23⟩) :: JrH bj bd n d) _
  refine zC ?_
  apply cr
  refine s_ p_lo ?_
  refine s_ p_eq ?_
  refine zC ?_
  refine ci ?_ ?_
  · intro he
    have he' : e = 0 := he
    rw [if_pos he']
    refine zC ?_
    refine ca [0, 1, 2, 3, 4, 5] [5] ?_
    refine a_lo ?_
    refine a_loa ?_
    refine a_ (fun _ => p_ca (ho)) ?_
    refine a_ (fun _ => p_nc) ?_
    refine a_ (fun _ => p_fr) ?_
    refine a_st ?_
    apply an
    refine zC ?_
    exact ⟨.inl rfl, _, kR, rfl⟩
  · intro he
    have he' : ¬ e = 0 := he
    rw [if_neg he']
    refine zC ?_
    exact ⟨.inl rfl, _, kR, rfl⟩
def keepF (K : Kp) (t : Nd) (e : Int) : Kp × Int := if ¬ e = 0 then (K, e) else if wakeF K.N = wakeF t then ({ K with N := t }, 0) else
  (if (writeF K (recB t (alikeF K.N t))).2 = 0 then { (writeF K (recB t (alikeF K.N t))).1 with N := t } else (writeF K (recB t (alikeF K.N t))).1, (writeF K (recB t (alikeF K.N t))).2)
structure KpOk (K : Kp) : Prop where
  d : DkR K.d
  sz : Sz K.N
  rec_ : (recB K.N 0).length ≤ 4000000
  n0 : 0 ≤ K.n
  n1 : K.n ≤ 100
theorem recB_le (t : Nd) (k : Nat) : (recB t k).length ≤ (recB t 0).length + 80 := by
  have h1 := intsB_len (headB t k)
  have h2 : (headB t k).length = 8 := rfl
  have h3 : (t.log.flatMap entB).length = ((t.log.take k).flatMap entB).length + ((t.log.drop k).flatMap entB).length := by
    conv => lhs; rw [← List.take_append_drop k t.log]
    rw [List.flatMap_append, List.length_append]
  unfold recB
  simp only [List.length_append, List.drop_zero]
  omega
set_option maxHeartbeats 4000000 in
theorem keep_fn (bk bj bd : Nat) (K : Kp) (t : Nd) (e : Int) (hK : KpOk K) (ht : Sz t) (hx : (recB t 0).length ≤ 4000000) :
    FnH Tryz.prog 101 [pW bk, nd t, ei e] (KpH bk bj bd K) (fun r H => r = ei (keepF K t e).2 ∧ H = KpH bk bj bd (keepF K t e).1) := by
  have htl := ht.len
  have hNl := hK.sz.len
  have hw1 := wake_fn K.N (by omega)
  have hw2 := wake_fn t (by omega)
  have hsm := same_fn (wakeF K.N) (wakeF t) (by show K.N.log.length ≤ _; omega) (by show t.log.length ≤ _; omega)
  have hal := alike_fn K.N t (by omega) (by omega)
  have hale : alikeF K.N t ≤ t.log.length := by
    unfold alikeF
    split
    · exact (pfx_le _ _).2
    · omega
  have hrl : (recB t (alikeF K.N t)).length ≤ 4194304 := by
    have := recB_le t (alikeF K.N t)
    omega
  have hby := bytes_fn t (alikeF K.N t) ht hale
  have hwr := write_fn bk bj bd K (recB t (alikeF K.N t)) hK.d hK.sz (by have := hK.rec_; omega) hrl hK.n0 hK.n1
  obtain ⟨⟨K', ew⟩, hwe⟩ : ∃ a, writeF K (recB t (alikeF K.N t)) = a := ⟨_, rfl⟩
  rw [hwe] at hwr
  simp only at hwr
  have hA : keepF K t e = if ¬ e = 0 then (K, e) else if wakeF K.N = wakeF t then ({ K with N := t }, 0) else (if ew = 0 then { K' with N := t } else K', ew) := by
    unfold keepF
    rw [hwe]
  rw [hA]
  obtain ⟨n, N, d⟩ := K
  refine fn_enterD Tryz.func101 (by rfl) (by rfl) ?_
  intro S0 w0 hw0
  show SimD _ _ _ [(0, pW bk), (1, T.agg (nodeC t (.sl false (t.log.map een)))), (2, ei e)] ((bk, ⟨tK, pW bj :: nodeC N (.sl false (N.log.map een)), 23⟩) :: JrH bj bd n d) _
  refine simD_seq ?_
  refine zC ?_
  apply cr
  refine e_b1 fun b3 _ => ?_
  refine e_bx fun b4 _ => ?_
  refine e_al fun b6 _ => ?_
  refine zC ?_
  refine ⟨rfl, ?_⟩
  refine simD_region ?_
  refine d_s p_mf ?_
  refine d_defer [.pointer (some ⟨b6, 0, none⟩), .pointer (some ⟨b4, 0, none⟩), .pointer (some ⟨b3, 0, none⟩)] ?_ rfl rfl (zl)
  refine simD_end hw0 ?_
  refine zC ?_
  apply cr
  refine s_ p_mv ?_
  refine s_ p_ne ?_
  refine s_ p_as ?_
  refine zC ?_
  refine ci ?_ ?_
  · intro he
    have he' : ¬ e = 0 := he
    rw [if_pos he']
    refine zC ?_
    apply cr
    refine s_ p_mv ?_
    refine e_st ?_
    refine zC ?_
    apply sim_ret
    refine ⟨_, kdef_fn b6 b4 b3 bk bj bd e t ⟨n, N, d⟩ (by omega), ?_⟩
    rintro H1 rfl
    rw [if_neg he']
    exact ⟨_, _, _, zrs, Le.refl _, ⟨rfl, rfl⟩, (HeapFront.skip _ _ _ (.skip _ _ _ (.skip _ _ _ kR))).le⟩
  intro he
  have he' : e = 0 := Decidable.not_not.1 he
  rw [if_neg he]
  refine zC ?_
  refine ca [0, 1, 2, 3, 4, 5, 6, 7, 8] [] ?_
  refine a_lo ?_
  refine a_ (fun _ => p_nc) ?_
  refine a_ (fun _ => p_fr) ?_
  refine a_loa ?_
  refine a_ (fun _ => p_ca (hw1)) ?_
  refine a_loa ?_
  refine a_ (fun _ => p_ca (hw2)) ?_
  refine a_ (fun _ => p_ca (hsm)) ?_
  refine a_ (fun _ => p_as) ?_
  apply an
  refine zC ?_
  refine ci ?_ ?_
  · intro hs
    have hs' : wakeF N = wakeF t := hs
    rw [if_pos hs']
    refine zC ?_
    apply cr
    refine e_st ?_
    refine zC ?_
    apply sim_ret
    refine ⟨_, kdef_fn b6 b4 b3 bk bj bd 0 t ⟨n, N, d⟩ (by omega), ?_⟩
    rintro H1 rfl
    rw [if_pos rfl]
    exact ⟨_, _, _, zrs, Le.refl _, ⟨rfl, rfl⟩, (HeapFront.skip _ _ _ (.skip _ _ _ (.skip _ _ _ kR))).le⟩
  intro hs
  have hs' : ¬ wakeF N = wakeF t := hs
  rw [if_neg hs']
  refine zC ?_
  refine ca [0, 1, 2, 3, 4, 5, 6, 7, 8, 9, 10] [9, 10] ?_
  refine a_lo ?_
  refine a_loa ?_
  refine a_lo ?_
  refine a_ (fun _ => p_nc) ?_
  refine a_ (fun _ => p_fr) ?_
  refine a_loa ?_
  refine a_loa ?_
  refine a_ (fun _ => p_ca (hal)) ?_
  refine a_ (fun _ => p_ca (hby)) ?_
  refine a_cHr (Hr := [_, _, _]) hwr (List.perm_append_comm (l₁ := [_, _, _])) (fun r H' ⟨hr1, hr2⟩ => ⟨?_, ?_⟩)
  · subst hr1 hr2; exact zd
  subst hr1 hr2
  refine zD ?_
  refine a_st ?_
  apply an
  refine zC ?_
  refine sim_perm (H' := bxH b6 b4 b3 bk ew t ++ KpH bk bj bd K') (List.perm_append_comm (l₁ := KpH bk bj bd K') (l₂ := bxH b6 b4 b3 bk ew t)) ?_
  apply sim_ret
  refine ⟨_, kdef_fn b6 b4 b3 bk bj bd ew t K' (by omega), ?_⟩
  rintro H1 rfl
  exact ⟨_, _, _, zrs, Le.refl _, ⟨rfl, rfl⟩, (HeapFront.skip _ _ _ (.skip _ _ _ (.skip _ _ _ kR))).le⟩
theorem sent_fn (bk bj bd : Nat) (K : Kp) (t : Nd) (l : List Ms) (hK : KpOk K) (ht : Sz t) (hx : (recB t 0).length ≤ 4000000) :
    FnH Tryz.prog 75 [pW bk, nd t, mss l] (KpH bk bj bd K) (fun r H => r = .tup [if (keepF K t 0).2 = 0 then mss l else .sl true [], ei (keepF K t 0).2] ∧ H = KpH bk bj bd (keepF K t 0).1) := by
  have hk := keep_fn bk bj bd K t 0 hK ht hx
  obtain ⟨⟨K', e⟩, hke⟩ : ∃ a, keepF K t 0 = a := ⟨_, rfl⟩
  rw [hke] at hk ⊢
  simp only at hk ⊢
  refine fn_enter Tryz.func75 (by rfl) (by rfl) ?_
  intro S0 w0
  show Sim _ _ [(0, pW bk), (1, T.agg (nodeC t (.sl false (t.log.map een)))), (2, mss l)] (KpH bk bj bd K) _
  refine zC ?_
  apply cr
  refine e_bx fun b4 _ => ?_
  refine s_ p_as ?_
  refine s_ p_as ?_
  refine zC ?_
  apply cr
  refine s_ p_mv ?_
  refine s_ p_mf ?_
  refine s_ p_as ?_
  refine zC ?_
  apply cr
  refine s_ p_mv ?_
  refine s_ p_loa ?_
  refine e_vH (fs := [pW bk]) (args := [nd t, ei 0]) (cs := []) hk (Hr := [_]) (List.perm_append_comm (l₁ := [_])) (fun r H' ⟨hr1, hr2⟩ => ?_)
  subst hr1 hr2
  refine s_ p_as ?_
  refine zC ?_
  apply cr
  refine s_ p_mv ?_
  refine s_ p_ne ?_
  refine zC ?_
  refine ci ?_ ?_
  · intro he
    have he' : ¬ e = 0 := he
    rw [if_neg he']
    refine zC ?_
    apply cr
    refine s_ p_mv ?_
    refine s_ p_as ?_
    refine s_ p_as ?_
    refine zC ?_
    refine zR ?_
    refine rhp List.perm_append_comm (.skip _ _ _ kR) ⟨rfl, rfl⟩ ?_
    exact Le.tup (LeL.cons (Le.slice0 _ _) (LeL.cons (Le.refl _) LeL.nil))
  · intro he
    have he' : e = 0 := Decidable.not_not.1 he
    rw [if_pos he', he']
    refine zC ?_
    apply cr
    refine s_ p_mv ?_
    refine s_ p_as ?_
    refine s_ p_as ?_
    refine zC ?_
    refine zR ?_
    exact rhp List.perm_append_comm (.skip _ _ _ kR) ⟨rfl, rfl⟩ (Le.refl _)
theorem kput_fn (bk bj bd : Nat) (K : Kp) (t : Nd) (i e : Int) (hK : KpOk K) (ht : Sz t) (hx : (recB t 0).length ≤ 4000000) :
    FnH Tryz.prog 70 [pW bk, nd t, ei i, ei e] (KpH bk bj bd K) (fun r H => r = .tup [ei (if (keepF K t e).2 = 0 then i else 0), ei (keepF K t e).2] ∧ H = KpH bk bj bd (keepF K t e).1) := by
  have hk := keep_fn bk bj bd K t e hK ht hx
  obtain ⟨⟨K', e'⟩, hke⟩ : ∃ a, keepF K t e = a := ⟨_, rfl⟩
  rw [hke] at hk ⊢
  simp only at hk ⊢
  refine fn_enter Tryz.func70 (by rfl) (by rfl) ?_
  intro S0 w0
  show Sim _ _ [(0, pW bk), (1, T.agg (nodeC t (.sl false (t.log.map een)))), (2, ei i), (3, ei e)] (KpH bk bj bd K) _
  refine zC ?_
  apply cr
  refine e_bx fun b5 _ => ?_
  refine s_ p_as ?_
  refine s_ p_as ?_
  refine zC ?_
  apply cr
  refine s_ p_mv ?_
  refine s_ p_loa ?_
  refine s_ p_mv ?_
  refine e_cH (Hr := [_]) hk (List.perm_append_comm (l₁ := [_])) (fun r H' ⟨hr1, hr2⟩ => ?_)
  subst hr1 hr2
  refine s_ p_as ?_
  refine zC ?_
  apply cr
  refine s_ p_mv ?_
  refine s_ p_ne ?_
  refine zC ?_
  refine ci ?_ ?_
  · intro he
    have he' : ¬ e' = 0 := he
    rw [if_neg he']
    refine zC ?_
    apply cr
    refine s_ p_mv ?_
    refine s_ p_as ?_
    refine s_ p_as ?_
    refine zC ?_
    refine zR ?_
    exact rhp List.perm_append_comm (.skip _ _ _ kR) ⟨rfl, rfl⟩ (Le.refl _)
  · intro he
    have he' : e' = 0 := Decidable.not_not.1 he
    rw [if_pos he', he']
    refine zC ?_
    apply cr
    refine s_ p_mv ?_
    refine s_ p_as ?_
    refine s_ p_as ?_
    refine zC ?_
    refine zR ?_
    exact rhp List.perm_append_comm (.skip _ _ _ kR) ⟨rfl, rfl⟩ (Le.refl _)
end Go.Proofs.YtjbokbikkcfjjaaGreat
end
section
set_option maxRecDepth 16000
namespace Go.Proofs.YtjbokbikkcfjjaaGreat
open Go.Cap
set_option linter.unusedSimpArgs false
set_option linter.unusedVariables false
attribute [local irreducible] POp SimFrom DrawFrom EOp Sim FnH T.gp
def sentT (K : Kp) (t : Nd) (l : List Ms) : T := .tup [if (keepF K t 0).2 = 0 then mss l else .sl true [], ei (keepF K t 0).2]
theorem kTick_fn (bk bj bd : Nat) (K : Kp) {t : Nd} {l : List Ms} (hT : FnP Tryz.prog 76 [nd K.N] (fun r => r = .tup [nd t, mss l])) (hK : KpOk K) (ht : Sz t) (hx : (recB t 0).length ≤ 4000000) :
    FnH Tryz.prog 47 [pW bk] (KpH bk bj bd K) (fun r H => r = sentT K t l ∧ H = KpH bk bj bd (keepF K t 0).1) := by
  have hs := sent_fn bk bj bd K t l hK ht hx
  obtain ⟨n, N, d⟩ := K
  refine fn_enter Tryz.func47 (by rfl) (by rfl) ?_
  intro S0 w0
  show Sim _ _ [(0, pW bk)] ((bk, ⟨tK, pW bj :: nodeC N (.sl false (N.log.map een)), 23⟩) :: JrH bj bd n d) _
  refine zC ?_
  apply cr
  refine s_ p_as ?_
  refine s_ p_as ?_
  refine zC ?_
  refine ca [0, 1, 2, 3, 4, 5, 6, 7, 8, 9, 10, 11, 12, 13, 14, 15] [11] ?_
  refine a_ (fun _ => p_mv) ?_
  refine a_ (fun _ => p_nc) ?_
  refine a_ (fun _ => p_fr) ?_
  refine a_ (fun _ => p_mv) ?_
  refine a_ (fun _ => p_nc) ?_
  refine a_ (fun _ => p_fr) ?_
  refine a_ (fun _ => p_fr) ?_
  refine a_loa ?_
  refine a_ (fun _ => p_ca (hT)) ?_
  refine a_ (fun _ => p_ex) ?_
  refine a_ (fun _ => p_ex) ?_
  refine a_cH hs (fun r H' ⟨hr1, hr2⟩ => ⟨?_, ?_⟩)
  · subst hr1 hr2; exact zd
  subst hr1 hr2
  refine zD ?_
  refine a_ (fun _ => p_ex) ?_
  refine a_ (fun _ => p_ex) ?_
  refine a_ (fun _ => p_as) ?_
  refine a_ (fun _ => p_as) ?_
  apply an
  refine zC ?_
  refine zR ?_
  exact rh kR ⟨rfl, rfl⟩ (Le.refl _)
theorem kTake_fn (bk bj bd : Nat) (K : Kp) (m : Ms) {t : Nd} {l : List Ms} (hT : FnP Tryz.prog 100 [nd K.N, ms m] (fun r => r = .tup [nd t, mss l])) (hK : KpOk K) (ht : Sz t) (hx : (recB t 0).length ≤ 4000000) :
    FnH Tryz.prog 69 [pW bk, ms m] (KpH bk bj bd K) (fun r H => r = sentT K t l ∧ H = KpH bk bj bd (keepF K t 0).1) := by
  have hs := sent_fn bk bj bd K t l hK ht hx
  obtain ⟨n, N, d⟩ := K
  refine fn_enter Tryz.func69 (by rfl) (by rfl) ?_
  intro S0 w0
  show Sim _ _ [(0, pW bk), (1, T.agg (msC m (eens m.entries)))] ((bk, ⟨tK, pW bj :: nodeC N (.sl false (N.log.map een)), 23⟩) :: JrH bj bd n d) _
  refine zC ?_
  apply cr
  refine e_bx fun b3 _ => ?_
  refine s_ p_as ?_
  refine s_ p_as ?_
  refine zC ?_
  refine ca [0, 1, 2, 3, 4, 5, 6, 7, 8, 9, 10, 11, 12, 13, 14, 15, 16] [12] ?_
  refine a_ (fun _ => p_mv) ?_
  refine a_ (fun _ => p_nc) ?_
  refine a_ (fun _ => p_fr) ?_
  refine a_ (fun _ => p_mv) ?_
  refine a_ (fun _ => p_nc) ?_
  refine a_ (fun _ => p_fr) ?_
  refine a_ (fun _ => p_fr) ?_
  refine a_loa ?_
  refine a_loa ?_
  refine a_ (fun _ => p_ca (hT)) ?_
  refine a_ (fun _ => p_ex) ?_
  refine a_ (fun _ => p_ex) ?_
  refine a_cHr (Hr := [_]) hs (List.perm_append_comm (l₁ := [_])) (fun r H' ⟨hr1, hr2⟩ => ⟨?_, ?_⟩)
  · subst hr1 hr2; exact zd
  subst hr1 hr2
  refine zD ?_
  refine a_ (fun _ => p_ex) ?_
  refine a_ (fun _ => p_ex) ?_
  refine a_ (fun _ => p_as) ?_
  refine a_ (fun _ => p_as) ?_
  apply an
  refine zC ?_
  refine zR ?_
  exact rhp List.perm_append_comm (.skip _ _ _ kR) ⟨rfl, rfl⟩ (Le.refl _)
def putT (K : Kp) (t : Nd) (i e : Int) : T := .tup [ei (if (keepF K t e).2 = 0 then i else 0), ei (keepF K t e).2]
theorem kProp_fn (bk bj bd : Nat) (K : Kp) (cmd : List UInt8) {t : Nd} {i e : Int} (hT : FnP Tryz.prog 71 [nd K.N, es cmd] (fun r => r = .tup [nd t, ei i, ei e])) (hK : KpOk K) (ht : Sz t) (hx : (recB t 0).length ≤ 4000000) :
    FnH Tryz.prog 39 [pW bk, es cmd] (KpH bk bj bd K) (fun r H => r = putT K t i e ∧ H = KpH bk bj bd (keepF K t e).1) := by
  have hs := kput_fn bk bj bd K t i e hK ht hx
  obtain ⟨n, N, d⟩ := K
  refine fn_enter Tryz.func39 (by rfl) (by rfl) ?_
  intro S0 w0
  show Sim _ _ [(0, pW bk), (1, es cmd)] ((bk, ⟨tK, pW bj :: nodeC N (.sl false (N.log.map een)), 23⟩) :: JrH bj bd n d) _
  refine zC ?_
  apply cr
  refine s_ p_as ?_
  refine s_ p_as ?_
  refine zC ?_
  refine ca [0, 1, 2, 3, 4, 5, 6, 7, 8, 9, 10, 11, 12, 13, 14, 15, 16, 17] [13] ?_
  refine a_ (fun _ => p_mv) ?_
  refine a_ (fun _ => p_nc) ?_
  refine a_ (fun _ => p_fr) ?_
  refine a_ (fun _ => p_mv) ?_
  refine a_ (fun _ => p_nc) ?_
  refine a_ (fun _ => p_fr) ?_
  refine a_ (fun _ => p_fr) ?_
  refine a_loa ?_
  refine a_ (fun _ => p_mv) ?_
  refine a_ (fun _ => p_ca (hT)) ?_
  refine a_ (fun _ => p_ex) ?_
  refine a_ (fun _ => p_ex) ?_
  refine a_ (fun _ => p_ex) ?_
  refine a_cH hs (fun r H' ⟨hr1, hr2⟩ => ⟨?_, ?_⟩)
  · subst hr1 hr2; exact zd
  subst hr1 hr2
  refine zD ?_
  refine a_ (fun _ => p_ex) ?_
  refine a_ (fun _ => p_ex) ?_
  refine a_ (fun _ => p_as) ?_
  refine a_ (fun _ => p_as) ?_
  apply an
  refine zC ?_
  refine zR ?_
  exact rh kR ⟨rfl, rfl⟩ (Le.refl _)
theorem kNode_fn (bk bj bd : Nat) (K : Kp) (hl : K.N.log.length ≤ 1000000000) : FnH Tryz.prog 23 [pW bk] (KpH bk bj bd K) (fun r H => r = nd K.N ∧ H = KpH bk bj bd K) := by
  have ho := kown_fn K.N hl
  obtain ⟨n, N, d⟩ := K
  refine fn_enter Tryz.func23 (by rfl) (by rfl) ?_
  intro S0 w0
  show Sim _ _ [(0, pW bk)] ((bk, ⟨tK, pW bj :: nodeC N (.sl false (N.log.map een)), 23⟩) :: JrH bj bd n d) _
  refine zC ?_
  apply cr
  refine e_al fun b2 _ => ?_
  refine zC ?_
  apply cr
  refine s_ p_mv ?_
  refine s_ p_nc ?_
  refine s_ p_fr ?_
  refine s_ p_fr ?_
  refine s_ p_loa ?_
  refine s_ (p_ca (ho)) ?_
  refine e_st ?_
  refine zC ?_
  refine zR ?_
  exact rh (.skip _ _ _ kR) ⟨rfl, rfl⟩ (Le.refl _)
end Go.Proofs.YtjbokbikkcfjjaaGreat
end
