/-
  frames: Frame, One, Scan.
  disk: a log, a snapshot, power.
  disk: Sync, Cut, Swap; New, Stop, Dead, Log, Snap, Crash.
-/
import Derived.Test.YtjbokbikkcfjjaaGreatAav
section
set_option maxRecDepth 16000
namespace Go.Proofs.YtjbokbikkcfjjaaGreat
open Go.Cap
set_option linter.unusedSimpArgs false
set_option linter.unusedVariables false
attribute [local irreducible] POp SimFrom DrawFrom EOp Sim FnH T.gp
def frmB (x : List UInt8) : List UInt8 := fourF x.length ++ (fourF (crcF x) ++ x)
theorem fourF_len (n : Int) : (fourF n).length = 4 := rfl
theorem frmB_len (x : List UInt8) : (frmB x).length = 8 + x.length := by simp [frmB, fourF_len]; omega
theorem frmB_num {x : List UInt8} (hx : x.length ≤ 4194304) (r : List UInt8) : numF (frmB x ++ r) = x.length := by
  unfold frmB
  rw [List.append_assoc]
  exact num_four (by omega) (by omega) _
theorem frmB_crc (x : List UInt8) (r : List UInt8) : numF ((frmB x ++ r).drop 4) = crcF x := by
  unfold frmB
  rw [List.append_assoc, List.drop_left' (fourF_len _), List.append_assoc]
  exact num_four (crcF_range x).1 (crcF_range x).2 _
theorem frmB_drop (x r : List UInt8) : (frmB x ++ r).drop 8 = x ++ r := by
  unfold frmB
  rw [List.append_assoc, List.append_assoc, ← List.append_assoc, List.drop_left' (by rw [List.length_append]; rfl)]
theorem frame_fn (f : Bool) (x : List UInt8) (hx : x.length ≤ 4194304) : FnP Tryz.prog 166 [.sl f (x.map eb)] (fun r => r = .tup [bl (frmB x), ei 0]) := by
  have hr := crcF_range x
  obtain ⟨c, hc⟩ : ∃ c : Nat, crcF x = (c : Int) := ⟨(crcF x).toNat, by omega⟩
  have h1 := four_fn x.length
  have h2 := crc_fn f x (by omega)
  have h3 := four_fn c
  rw [← hc] at h3
  have h4 := concat_fn true [(true, fourF x.length), (true, fourF c), (f, x)] (by simp [catL, fourF_len]; omega) (by simp)
  rw [← hc] at h4
  refine fn_enter Tryz.func166 (by rfl) (by rfl) ?_
  intro S0 w0
  show Sim _ _ [(0, .sl f (x.map eb))] _ _
  refine zC ?_
  apply cr
  refine s_ p_as ?_
  refine s_ p_as ?_
  refine zC ?_
  apply cr
  refine s_ p_mv ?_
  (first | refine s_ p_ln ?_ | refine s_ p_lr ?_)
  refine s_ p_gt ?_
  refine zC ?_
  refine ci ?_ ?_
  · intro h; exact absurd h (by simp only [List.length_map]; omega)
  intro _
  refine zC ?_
  apply cr
  refine s_ p_mv ?_
  (first | refine s_ p_ln ?_ | refine s_ p_lr ?_)
  refine s_ p_cv ?_
  rw [List.length_map, wrap_u32 (a := ((x.length : Nat) : Int)) (by omega) (by omega)]
  refine s_ (p_ca (h1)) ?_
  refine s_ p_mv ?_
  refine s_ (p_ca (h2)) ?_
  refine s_ (p_ca (h3)) ?_
  refine s_ p_mv ?_
  refine s_ p_bs ?_
  refine s_ (p_ca (h4)) ?_
  refine s_ p_as ?_
  refine s_ p_as ?_
  refine zC ?_
  refine zE ?_
  exact Le.of_eq (by simp [packT, catL, bl, frmB]; rfl)
theorem one_fn (x : List UInt8) (hx : x.length ≤ 4194304) : FnP Tryz.prog 93 [.sl false ((frmB x).map eb)] (fun r => r = .tup [bl x, ei 0]) := by
  have hlen := frmB_len x
  have h1 := number4_fn false (frmB x) (by omega)
  have hn := frmB_num hx []
  have hcr := frmB_crc x []
  have hdr := frmB_drop x []
  rw [List.append_nil] at hn hcr hdr
  rw [hn] at h1
  rw [List.append_nil] at hdr
  have h2 := crc_fn false x (by omega)
  have h3 := number4_fn false ((frmB x).drop 4) (by rw [List.length_drop]; omega)
  rw [hcr] at h3
  have h4 := cloneB_fnD false x (by omega)
  refine fn_enter Tryz.func93 (by rfl) (by rfl) ?_
  intro S0 w0
  show Sim _ _ [(0, .sl false ((frmB x).map eb))] _ _
  refine zC ?_
  apply cr
  refine s_ p_as ?_
  refine s_ p_as ?_
  refine zC ?_
  apply cr
  refine s_ p_mv ?_
  (first | refine s_ p_ln ?_ | refine s_ p_lr ?_)
  refine s_ p_lt ?_
  refine zC ?_
  refine ci ?_ ?_
  · intro h; exact absurd h (by simp only [List.length_map]; omega)
  intro _
  refine zC ?_
  refine ca [0, 1, 2, 3, 4, 5] [] ?_
  refine a_ (fun _ => p_mv) ?_
  refine a_ (fun _ => p_ca (h1)) ?_
  refine a_ (fun _ => p_mv) ?_
  refine a_ (fun _ => p_s0lE (i := 8) (xs := (frmB x).map eb) (ys := x.map eb) (by rw [← hdr, List.map_drop]; rfl)) ?_
  refine a_ (fun _ => p_as) ?_
  refine a_ (fun _ => p_as) ?_
  apply an
  refine zC ?_
  apply cr
  refine s_ p_mv ?_
  refine s_ p_gt ?_
  refine s_ p_as ?_
  refine zC ?_
  refine ci ?_ ?_
  · intro h; exact absurd h (by omega)
  intro _
  refine zC ?_
  apply cr
  refine s_ p_mv ?_
  refine s_ p_cv ?_
  rw [wrap_i64 (a := ((x.length : Nat) : Int)) (by omega) (by omega)]
  refine s_ p_mv ?_
  (first | refine s_ p_ln ?_ | refine s_ p_lr ?_)
  refine s_ p_gt ?_
  refine s_ p_as ?_
  refine zC ?_
  refine ci ?_ ?_
  · intro h; exact absurd h (by simp only [List.length_map]; omega)
  intro _
  refine zC ?_
  apply cr
  refine s_ p_mv ?_
  refine s_ p_cv ?_
  rw [wrap_i64 (a := ((x.length : Nat) : Int)) (by omega) (by omega)]
  refine s_ p_mv ?_
  (first | refine s_ p_ln ?_ | refine s_ p_lr ?_)
  refine s_ p_lt ?_
  refine s_ p_as ?_
  refine zC ?_
  refine ci ?_ ?_
  · intro h; exact absurd h (by simp only [List.length_map]; omega)
  intro _
  refine zC ?_
  refine ca [0, 1, 2, 3, 4, 5, 6] [] ?_
  refine a_ (fun _ => p_mv) ?_
  refine a_ (fun _ => p_ca (h2)) ?_
  refine a_ (fun _ => p_mv) ?_
  refine a_ (fun _ => p_s0lE (i := 4) (xs := (frmB x).map eb) (ys := ((frmB x).drop 4).map eb) (by rw [List.map_drop]; rfl)) ?_
  refine a_ (fun _ => p_ca (h3)) ?_
  refine a_ (fun _ => p_ne) ?_
  refine a_ (fun _ => p_as) ?_
  apply an
  refine zC ?_
  refine ci ?_ ?_
  · intro h; exact absurd rfl h
  intro _
  refine zC ?_
  apply cr
  refine s_ p_mv ?_
  refine s_ (p_ca (h4)) ?_
  refine s_ p_as ?_
  refine s_ p_as ?_
  refine zC ?_
  refine zE ?_
  exact Le.refl _
def tBl (l : List (List UInt8)) : T := .sl false (l.map bl)
def OBl (l : List (List UInt8)) (v : Value) (Hs : Heap) : Prop := OSl tBB 1 (l.map bl) v Hs
theorem bl1 (l : List (List UInt8)) : ∀ x ∈ l.map bl, x.cells.length = 1 := zk
theorem bl_ok (l : List (List UInt8)) : ∀ x ∈ l.map bl, x.solid := solid_map _ (fun _ => .inl rfl) _
theorem OBl.len {l : List (List UInt8)} {v : Value} {Hs : Heap} (h : OBl l v Hs) : ∃ p c, v = .slice p (l.map bl).length c := OSl.len h
def Stop (t : List UInt8) : Prop := t.length < 8 ∨ 4194304 < numF t ∨ (t.length : Int) - 8 < numF t
theorem frms_next (l : List (List UInt8)) {k : Nat} (hk : k < l.length) : (l.take (k + 1)).flatMap frmB = (l.take k).flatMap frmB ++ frmB l[k] := by
  rw [List.take_succ_eq_append_getElem hk, List.flatMap_append]
  simp
theorem frms_split (l : List (List UInt8)) (k : Nat) (t : List UInt8) : (l.flatMap frmB ++ t).drop ((l.take k).flatMap frmB).length = (l.drop k).flatMap frmB ++ t := by
  conv => lhs; rw [← List.take_append_drop k l]
  rw [List.flatMap_append, List.append_assoc, List.take_append_drop, List.drop_left' rfl]
theorem frms_le (l : List (List UInt8)) (k : Nat) : ((l.take k).flatMap frmB).length ≤ (l.flatMap frmB).length := by
  conv => rhs; rw [← List.take_append_drop k l]
  rw [List.flatMap_append, List.length_append]; omega
set_option maxHeartbeats 2000000 in
theorem scan_fn (l : List (List UInt8)) (tl : List UInt8) (hst : Stop tl) (hl : ∀ x ∈ l, x.length ≤ 4194304) (hb : (l.flatMap frmB ++ tl).length ≤ 100000000) : FnP Tryz.prog 95 [.sl false ((l.flatMap frmB ++ tl).map eb)] (fun r => r = .tup [tBl l, ei (l.flatMap frmB).length]) := by
  obtain ⟨B, hB⟩ : ∃ B, B = l.flatMap frmB ++ tl := ⟨_, rfl⟩
  rw [← hB] at hb ⊢
  have hcnt : l.length ≤ 100000000 := by
    have : l.length ≤ (l.flatMap frmB).length := by
      clear hl hB
      induction l with
      | nil => simp
      | cons x l ih => rw [List.flatMap_cons, List.length_append, frmB_len, List.length_cons]; omega
    rw [hB, List.length_append] at hb
    omega
  refine FnH.give (Φ := fun r H => ∃ v, r = .tup [.v v, ei (l.flatMap frmB).length] ∧ OBl l v H) ?_ (by rintro r H ⟨v, rfl, ho⟩; exact Lends.tup (LendsL.cons (OSl.lend ho (fun _ h => h) (bl1 _) (bl_ok _)) (LendsL.cons (Lends.le (Le.refl _)) LendsL.nil)))
  refine fn_enter Tryz.func95 (by rfl) (by rfl) ?_
  intro S0 w0
  show Sim _ _ [(0, .sl false (B.map eb))] _ _
  refine zC ?_
  apply cr
  refine s_ p_as ?_
  refine s_ p_as ?_
  refine zC ?_
  apply sim_loopL (σ := Nat × Value × Heap) (ok := fun s => s.1 ≤ l.length ∧ OBl (l.take s.1) s.2.1 s.2.2) (env := fun s => [(2, .v s.2.1), (3, ei ((l.take s.1).flatMap frmB).length), (0, .sl false (B.map eb))]) (heap := fun s => s.2.2) (μ := fun s => l.length + 1 - s.1) (s0 := (0, .slice none 0 0, []))
  · exact ⟨Nat.zero_le _, osl_nil⟩
  · exact eL
  · exact kR
  rintro ⟨k, v, H⟩ ⟨hk, ho⟩
  simp only at hk ho
  show Sim _ _ [(2, .v v), (3, ei ((l.take k).flatMap frmB).length), (0, .sl false (B.map eb))] H _
  have hsp := frms_split l k tl
  rw [← hB] at hsp
  have hle := frms_le l k
  have hBl : (l.flatMap frmB).length ≤ B.length := by rw [hB, List.length_append]; omega
  obtain ⟨p, c, rfl⟩ := ho.len
  by_cases hkl : k < l.length
  · obtain ⟨x, hx⟩ : ∃ x, x = l[k] := ⟨_, rfl⟩
    obtain ⟨rest, hrest⟩ : ∃ rest, rest = (l.drop (k + 1)).flatMap frmB ++ tl := ⟨_, rfl⟩
    have htodo : (l.drop k).flatMap frmB ++ tl = frmB x ++ rest := by
      rw [List.drop_eq_getElem_cons hkl, List.flatMap_cons, List.append_assoc, ← hrest, ← hx]
    rw [htodo] at hsp
    have hxl : x.length ≤ 4194304 := hl x (by rw [hx]; exact List.getElem_mem hkl)
    have hfl := frmB_len x
    have h1 := number4_fn false (frmB x ++ rest) (by rw [List.length_append]; omega)
    rw [frmB_num hxl rest] at h1
    have h2 := crc_fn false x (by omega)
    have h3 := number4_fn false ((frmB x ++ rest).drop 4) (by rw [List.length_drop, List.length_append]; omega)
    rw [frmB_crc x rest] at h3
    have h4 := cloneB_fnD false x (by omega)
    have hnx := frms_next l hkl
    rw [← hx] at hnx
    have htot : (frmB x ++ rest).length ≤ 100000000 := by rw [← hsp, List.length_drop]; omega
    refine zC ?_
    apply cr
    refine s_ p_mv ?_
    refine s_ p_mv ?_
    refine s_ (p_s0lE (i := ((((l.take k).flatMap frmB).length : Nat) : Int)) (xs := B.map eb) (ys := (frmB x ++ rest).map eb) (by rw [← hsp, List.map_drop]; rfl)) ?_
    refine s_ p_as ?_
    refine zC ?_
    apply cr
    refine s_ p_mv ?_
    (first | refine s_ p_ln ?_ | refine s_ p_lr ?_)
    refine s_ p_lt ?_
    refine zC ?_
    refine ci ?_ ?_
    · intro h; exact absurd h (by simp only [List.length_map, List.length_append]; omega)
    intro _
    refine zC ?_
    apply cr
    refine s_ p_mv ?_
    refine s_ (p_ca (h1)) ?_
    refine s_ p_as ?_
    refine zC ?_
    refine zC ?_
    apply cr
    refine s_ p_mv ?_
    refine s_ p_gt ?_
    refine s_ p_mv ?_
    refine gF (fun hg => p_mv) ?_
    refine gF (fun hg => p_cv (hx := u_ hg)) ?_
    refine gF (fun hg => p_mv) ?_
    (first | refine gF (fun hg => p_ln (hx := u_ hg)) ?_ | refine gF (fun hg => p_lr (hx := u_ hg)) ?_)
    refine gF (fun hg => p_su (hx := u_ hg)) ?_
    refine gF (fun hg => p_gt (hx := u_ hg) (hy := u_ hg)) ?_
    refine s_ p_or ?_
    refine zC ?_
    refine ci ?_ ?_
    · intro h
      rw [wrap_i64 (a := ((x.length : Nat) : Int)) (by omega) (by omega)] at h
      exact absurd h (by simp only [List.length_map, List.length_append]; omega)
    intro _
    refine zC ?_
    apply cr
    refine s_ p_mv ?_
    refine s_ p_mv ?_
    refine s_ p_adw ?_
    rw [wrap_u32 (a := 8 + ((x.length : Nat) : Int)) (by omega) (by omega)]
    refine s_ (p_s0bE (i := 8) (j := 8 + ((x.length : Nat) : Int)) (xs := (frmB x ++ rest).map eb) (ys := x.map eb) (by
      rw [← List.map_drop, ← List.map_take, show (8 : Int).toNat = 8 from rfl, frmB_drop, show (8 + ((x.length : Nat) : Int)).toNat - 8 = x.length by omega, List.take_left' rfl]) (h2 := by simp only [List.length_map, List.length_append]; omega)) ?_
    refine s_ p_as ?_
    refine zC ?_
    refine zC ?_
    refine ca [0, 1, 2, 3, 4, 5] [] ?_
    refine a_ (fun _ => p_mv) ?_
    refine a_ (fun _ => p_ca (h2)) ?_
    refine a_ (fun _ => p_mv) ?_
    refine a_ (fun _ => p_s0lE (i := 4) (xs := (frmB x ++ rest).map eb) (ys := ((frmB x ++ rest).drop 4).map eb) (by rw [List.map_drop]; rfl) (h2 := by simp only [List.length_map, List.length_append]; omega)) ?_
    refine a_ (fun _ => p_ca (h3)) ?_
    refine a_ (fun _ => p_ne) ?_
    apply an
    refine zC ?_
    refine ci ?_ ?_
    · intro h; exact absurd rfl h
    intro _
    refine zC ?_
    apply cr
    refine s_ p_mv ?_
    refine s_ p_mv ?_
    refine s_ (p_ca (h4)) ?_
    refine s_ p_bs ?_
    refine e_os (ho := ho) (A := []) (B := []) (ys := [bl x]) (f := true) (bl1 _) (fun v' Hs' ho' => ?_) (hH := by simp)
    obtain ⟨p', c', rfl⟩ := ho'.len
    refine s_ p_as ?_
    refine zC ?_
    apply cr
    refine s_ p_mv ?_
    refine s_ p_mv ?_
    refine s_ p_cv ?_
    rw [wrap_i64 (a := ((x.length : Nat) : Int)) (by omega) (by omega)]
    refine s_ p_ad ?_
    refine s_ p_ad ?_
    refine s_ p_as ?_
    refine zC ?_
    refine ⟨(k + 1, .slice p' (List.map bl (List.take k l) ++ [bl x]).length c', Hs'), ⟨by simp only; omega, ?_⟩, (by simp only []; omega), ⟨?_, ?_, eL⟩, by simp only [List.nil_append, List.append_nil]; exact kR⟩
    · simp only
      rw [List.take_succ_eq_append_getElem hkl, ← hx]
      unfold OBl
      rw [List.map_append]
      exact ho'
    · apply le_get; ((repeat (apply gS; rfl)); exact gZ)
      exact Le.refl _
    · apply le_get; ((repeat (apply gS; rfl)); exact gZ)
      simp only
      rw [hnx, List.length_append, hfl]
      exact Le.of_eq (by simp [ei])
  · have hke : k = l.length := by omega
    subst hke
    rw [List.drop_length, List.flatMap_nil, List.nil_append] at hsp
    rw [List.take_length] at hsp hle ho
    rw [List.take_length]
    have hbb : B.length = (l.flatMap frmB).length + tl.length := by rw [hB, List.length_append]
    refine zC ?_
    apply cr
    refine s_ p_mv ?_
    refine s_ p_mv ?_
    refine s_ (p_s0lE (i := (((l.flatMap frmB).length : Nat) : Int)) (xs := B.map eb) (ys := tl.map eb) (by rw [← hsp, List.map_drop]; rfl)) ?_
    refine s_ p_as ?_
    refine zC ?_
    apply cr
    refine s_ p_mv ?_
    (first | refine s_ p_ln ?_ | refine s_ p_lr ?_)
    refine s_ p_lt ?_
    refine zC ?_
    refine ci ?_ ?_
    · intro _
      refine zC ?_
      apply cr
      refine s_ p_mv ?_
      refine s_ p_mv ?_
      refine s_ p_as ?_
      refine s_ p_as ?_
      refine zC ?_
      refine zR ?_
      exact rh kR ⟨_, rfl, ho⟩ (Le.refl _)
    intro h8
    have h8' : 8 ≤ tl.length := by simp only [List.length_map] at h8; omega
    have hr := numF_range tl (by omega)
    have h1 := number4_fn false tl (by omega)
    refine zC ?_
    apply cr
    refine s_ p_mv ?_
    refine s_ (p_ca (h1)) ?_
    refine s_ p_as ?_
    refine zC ?_
    refine zC ?_
    apply cr
    refine s_ p_mv ?_
    refine s_ p_gt ?_
    refine s_ p_mv ?_
    refine gF (fun hg => p_mv) ?_
    refine gF (fun hg => p_cv (hx := u_ hg)) ?_
    refine gF (fun hg => p_mv) ?_
    (first | refine gF (fun hg => p_ln (hx := u_ hg)) ?_ | refine gF (fun hg => p_lr (hx := u_ hg)) ?_)
    refine gF (fun hg => p_su (hx := u_ hg)) ?_
    refine gF (fun hg => p_gt (hx := u_ hg) (hy := u_ hg)) ?_
    refine s_ p_or ?_
    refine zC ?_
    refine ci ?_ ?_
    · intro _
      refine zC ?_
      apply cr
      refine s_ p_mv ?_
      refine s_ p_mv ?_
      refine s_ p_as ?_
      refine s_ p_as ?_
      refine zC ?_
      refine zR ?_
      exact rh kR ⟨_, rfl, ho⟩ (Le.refl _)
    · intro h
      refine absurd ?_ h
      rw [wrap_i64 (by omega) (by omega), List.length_map]
      rcases hst with h | h | h
      · omega
      · exact .inl h
      · exact .inr h
end Go.Proofs.YtjbokbikkcfjjaaGreat
end
section
set_option maxRecDepth 16000
namespace Go.Cap
section
variable {K : Ctx} {t : Env} {H Hs Hr : Heap} {N : Env → Heap → Prop} {ops : Array Oper} {i j kg : Nat} {l : List Oper} {ty ty' tp : TypeId} {pos : String} {aft : Array Edge} {kd : Tmp} {p : Prop} {ip : Decidable p}
theorem g_eff {dst : Option Tmp} {op : Op} {want b0 : Bool} (hj : (ops[j]?).bind (·.dst) = some kg) (hb : t.get kg = .v (.bool b0)) (hw : b0 = want) (h : EOp K t H ⟨dst, op, tp, pos, aft, some (j, want)⟩ (fun t' H' => SimFrom K ops (i + 1) l t' H' N)) :
    SimFrom K ops i (⟨dst, op, tp, pos, aft, some (j, want)⟩ :: l) t H N := by
  intro hl a w Q hr hq
  rw [wpOps_at]
  unfold wpOpIn
  have hv : a.tmps.getD kg undef = .bool b0 := by obtain ⟨S, hr⟩ := hr; have := hr.env kg; rw [hb] at this; exact this.v_eq
  simp only [at_ops hl, (wanted_some (o := ⟨dst, op, tp, pos, aft, some (j, want)⟩) rfl hj hv).1 (by rw [hw]), if_true]
  exact h a w hr _ Q fun t' H' a' w' hn hr' => hn (at_rest hl) a' w' Q hr' hq
theorem gF_cH {f : FuncId} {xs : Array Operand} {ats : Array TypeId} {args : List T} {Φ : T → Heap → Prop} (hp : ¬ p) (hf : FnH K.P f args Hs Φ) (hP : H.Perm (Hs ++ Hr)) (hn : ∀ r H', Φ r H' → SimFrom K ops (i + 1) l ((kd, r) :: t) (H' ++ Hr) N) (hj : (ops[j]?).bind (·.dst) = some kg := by rfl) (hb : autoParam (t.get kg = .v (.bool (decide p))) zG._auto_1)
    (ha' : EvL t xs.toList args) (hc : callable K.P f = true := by rfl) (hd : okDst (some kd) K.n = true := by rfl) : SimFrom K ops i (⟨some kd, .call ⟨.value (.func f), xs, ats⟩, tp, pos, aft, some (j, false)⟩ :: l) t H N :=
  g_eff hj hb (by simpa using hp) (eop_callH hf hP hc ha' hd hn)
theorem e_mk {x : Operand} {n : Nat} {d : T} {by_ : Nat} {k : IntKind} [hz : ElemZC K.P ty d by_] (h : ∀ b, (∀ c ∈ keys H, ¬ c = b) → SimFrom K ops (i + 1) l ((kd, .v (.slice (some ⟨b, 0, none⟩) n n)) :: t) ((b, ⟨elemTy K.P ty, (List.replicate n d.cells).flatten, n * d.cells.length⟩) :: H) N)
    (hx : autoParam (t.ev x = .v (.int k n)) zl._auto_1) (hb : autoParam (n * by_ ≤ 281474976710656) zo._auto_1) (hm : autoParam ((n : Int) ≤ 9223372036854775807) zo._auto_1) (hd : Nat.blt kd K.n = true := by rfl) : SimFrom K ops i (⟨some kd, .makeSlice ty x x, tp, pos, aft, none⟩ :: l) t H N :=
  from_e (eop_make hx hx (by omega) (Int.le_refl _) (by rw [Int.toNat_natCast]; exact hb) hm hd (by simpa using h))
theorem e_cp {x y : Operand} {b o n c m : Nat} {ty0 : TypeId} {cells : List T} {f : Bool} {xs : List T} {kk : Nat} {H' : Heap} [hs : ElemSzC K.P ty kk] (h : SimFrom K ops (i + 1) l ((kd, .v (.int .i64 (min xs.length n : Nat))) :: t) H' N) (ho : o + min xs.length n * kk ≤ cells.length) (hx : autoParam (t.ev x = .v (.slice (some ⟨b, o, none⟩) n c)) zl._auto_1) (hy : autoParam (t.ev y = .sl f xs) zl._auto_1)
    (hi : autoParam (HRep H (b, ⟨ty0, cells, m⟩) (b, ⟨ty0, lay cells o ((xs.take (min xs.length n)).flatMap T.cells), m⟩) H') zr._auto_1) (hp : Nat.blt 0 kk = true := by rfl) (hk : autoParam (∀ x ∈ xs, x.cells.length = kk) zk._auto_1) (hl : autoParam (∀ x ∈ xs, allLeaf x.cells = true) zf._auto_1) (hd : Nat.blt kd K.n = true := by rfl) :
    SimFrom K ops i (⟨some kd, .call ⟨.builtin .copy, #[x, y], #[ty, ty']⟩, tp, pos, aft, none⟩ :: l) t H N := from_e (eop_copyO hx hy hi hp hk hl ho hd h)
end
end Go.Cap
namespace Go.Proofs.YtjbokbikkcfjjaaGreat
open Go.Cap
set_option linter.unusedSimpArgs false
set_option linter.unusedVariables false
attribute [local irreducible] POp SimFrom DrawFrom EOp Sim FnH T.gp
theorem eb_cells (l : List UInt8) : (l.map eb).flatMap T.cells = l.map eb := flat_map1 eb (fun _ => rfl) l
theorem lay_two (Z A B : List T) (h : Z.length = A.length + B.length) : lay (lay Z 0 A) A.length B = A ++ B := by
  unfold lay
  simp only [List.take_zero, List.nil_append, Nat.zero_add]
  rw [List.take_left' rfl, List.drop_of_length_le (l := A ++ Z.drop A.length) (by simp; omega), List.append_nil]
theorem own_fn (l : List UInt8) (hl : l.length ≤ 1000000000000) : FnP Tryz.prog 73 [bl l] (fun r => r = bl l) := by
  refine FnH.give (Φ := fun r H => ∃ v, r = .v v ∧ OB l v H) ?_ (by rintro r H ⟨v, rfl, ho⟩; exact ho.lend fun _ h => h)
  refine fn_enter Tryz.func73 (by rfl) (by rfl) ?_
  intro S0 w0
  show Sim _ _ [(0, .sl false (l.map eb))] _ _
  refine zC ?_
  apply cr
  refine s_ p_as ?_
  refine zC ?_
  apply cr
  refine s_ p_mv ?_
  (first | refine s_ p_ln ?_ | refine s_ p_lr ?_)
  refine e_mk (fun b6 _ => ?_)
  refine s_ p_as ?_
  refine zC ?_
  apply cr
  refine s_ p_mv ?_
  refine s_ p_mv ?_
  refine e_cp ?_ ?_
  rotate_left
  · simp [len_flat, T.cells, Value.cells]
  
  refine zC ?_
  apply cr
  refine s_ p_mv ?_
  refine s_ p_as ?_
  refine zC ?_
  refine zR ?_
  refine rh kR ⟨_, rfl, .inr ⟨b6, (l.map eb).length, rfl, Nat.le_refl _, ?_⟩⟩ (Le.refl _)
  rw [Nat.min_self, List.take_length, eb_cells, lay_whole _ _ (by rw [len_flat]; simp [T.cells, Value.cells])]
  rfl
structure Dk where
  left : Int
  odd : Int
  dead : Bool
  log : List UInt8
  synced : Int
  snap : List UInt8
  room : Int
def tD : TypeId := 89
def dkC (d : Dk) : List T := [ei d.left, ei d.odd, eB d.dead, bl d.log, ei d.synced, bl d.snap, ei d.room]
def DkH (b : Nat) (d : Dk) : Heap := [(b, ⟨tD, dkC d, 7⟩)]
structure DkOk (d : Dk) : Prop where
  l0 : 0 ≤ d.left
  l1 : d.left ≤ 1000000000
  r0 : 0 ≤ d.room
  r1 : d.room ≤ 16777216
  used : ((d.log.length + d.snap.length : Nat) : Int) ≤ 100000000
theorem dead_is (b : Bool) : ∃ (p : Prop) (ip : Decidable p), b = @decide p ip := ⟨b = true, inferInstance, by simp⟩
def spendF (d : Dk) : Dk × Bool := if 0 < d.left then ({ d with left := d.left - 1, dead := decide (d.left - 1 = 0) }, !decide (d.left - 1 = 0)) else (d, !d.dead)
theorem spend_fn (b : Nat) (d : Dk) (hd : DkOk d) : FnH Tryz.prog 128 [pW b] (DkH b d) (fun r H => r = eB (spendF d).2 ∧ H = DkH b (spendF d).1) := by
  have h1 := hd.l1
  obtain ⟨left, odd, dead, log, synced, snap, room⟩ := d
  obtain ⟨p, ip, rfl⟩ := dead_is dead
  simp only at h1
  refine fn_enter Tryz.func128 (by rfl) (by rfl) ?_
  intro S0 w0
  show Sim _ _ [(0, pW b)] (DkH b _) _
  unfold DkH dkC eB
  refine zC ?_
  apply cr
  refine s_ p_as ?_
  refine zC ?_
  apply cr
  refine s_ p_mv ?_
  refine s_ p_nc ?_
  refine s_ p_fr ?_
  refine s_ p_lo ?_
  refine s_ p_gt ?_
  refine zC ?_
  refine ci ?_ ?_
  · intro hlt
    have hlt' : 0 < left := hlt
    refine zC ?_
    apply cr
    refine s_ p_mv ?_
    refine s_ p_nc ?_
    refine s_ p_fr ?_
    refine s_ p_lo ?_
    refine s_ p_su ?_
    refine s_ p_nc ?_
    refine s_ p_fr ?_
    refine e_st ?_
    refine zC ?_
    apply cr
    refine s_ p_mv ?_
    refine s_ p_mv ?_
    refine s_ p_nc ?_
    refine s_ p_fr ?_
    refine s_ p_lo ?_
    refine s_ p_eq ?_
    refine s_ p_nc ?_
    refine s_ p_fr ?_
    refine e_st ?_
    refine zC ?_
    apply cr
    refine s_ p_mv ?_
    refine s_ p_nc ?_
    refine s_ p_fr ?_
    refine s_ p_lo ?_
    refine s_ p_no ?_
    refine s_ p_as ?_
    refine zC ?_
    refine zR ?_
    refine rh kR (d := eB (!decide (left - 1 = 0))) ?_ ?_
    · simp only [spendF, if_pos hlt']
      exact ⟨rfl, rfl⟩
    · exact Le.of_eq (by simp [packT, eB])
  · intro hlt
    have hlt' : ¬ 0 < left := hlt
    refine zC ?_
    apply cr
    refine s_ p_mv ?_
    refine s_ p_nc ?_
    refine s_ p_fr ?_
    refine s_ p_lo ?_
    refine s_ p_no ?_
    refine s_ p_as ?_
    refine zC ?_
    refine zR ?_
    refine rh kR (d := eB (!decide p)) ?_ ?_
    · simp only [spendF, if_neg hlt']
      exact ⟨rfl, trivial⟩
    · exact Le.of_eq (by simp [packT, eB])
theorem spend_keeps (d : Dk) : ∃ left dead done, spendF d = (⟨left, d.odd, dead, d.log, d.synced, d.snap, d.room⟩, done) := by
  unfold spendF
  split
  · exact ⟨_, _, _, rfl⟩
  · exact ⟨_, _, _, rfl⟩
def appF (d : Dk) (x : List UInt8) : Dk × Int := if d.dead then (d, 20) else if d.room - d.log.length - d.snap.length < x.length then (d, 19) else
  ({ (spendF d).1 with log := d.log ++ x }, if (spendF d).2 then 0 else 20)
theorem disk_app_fn (b : Nat) (d : Dk) (x : List UInt8) (hd : DkOk d) (hx : x.length ≤ 1000000000) : FnH Tryz.prog 167 [pW b, bl x] (DkH b d) (fun r H => r = ei (appF d x).2 ∧ H = DkH b (appF d x).1) := by
  have hr0 := hd.r0
  have hr1 := hd.r1
  have hu := hd.used
  have hsf := spend_fn b d hd
  obtain ⟨left1, dead1, done, hsp⟩ := spend_keeps d
  obtain ⟨left, odd, dead, log, synced, snap, room⟩ := d
  obtain ⟨p, ip, rfl⟩ := dead_is dead
  simp only at hr0 hr1 hu hsp
  rw [hsp] at hsf
  obtain ⟨q, iq, rfl⟩ := dead_is done
  refine fn_enter Tryz.func167 (by rfl) (by rfl) ?_
  intro S0 w0
  show Sim _ _ [(0, pW b), (1, .sl false (x.map eb))] [(b, ⟨tD, [ei left, ei odd, .v (.bool (decide p)), .sl false (log.map eb), ei synced, .sl false (snap.map eb), ei room], 7⟩)] _
  refine zC ?_
  apply cr
  refine s_ p_as ?_
  refine zC ?_
  apply cr
  refine s_ p_mv ?_
  refine s_ p_nc ?_
  refine s_ p_fr ?_
  refine s_ p_fr ?_
  refine s_ p_lo ?_
  refine s_ p_as ?_
  refine zC ?_
  refine ci ?_ ?_
  · intro hp
    refine zC ?_
    apply cr
    refine s_ p_as ?_
    refine zC ?_
    refine zR ?_
    refine rh kR ⟨?_, ?_⟩ (Le.refl _)
    · simp [appF, hp]; rfl
    · simp [appF, hp]; rfl
  intro hp
  refine zC ?_
  refine ca [0, 1, 2, 3, 4, 5, 6, 7, 8, 9, 10, 11, 12, 13, 14, 15, 16, 17, 18, 19] [] ?_
  refine a_ (fun _ => p_mv) ?_
  (first | refine a_ (fun _ => p_ln) ?_ | refine a_ (fun _ => p_lr) ?_)
  refine a_ (fun _ => p_mv) ?_
  refine a_ (fun _ => p_nc) ?_
  refine a_ (fun _ => p_fr) ?_
  refine a_lo ?_
  refine a_ (fun _ => p_mv) ?_
  refine a_ (fun _ => p_nc) ?_
  refine a_ (fun _ => p_fr) ?_
  refine a_lo ?_
  (first | refine a_ (fun _ => p_ln) ?_ | refine a_ (fun _ => p_lr) ?_)
  refine a_ (fun _ => p_su) ?_
  refine a_ (fun _ => p_mv) ?_
  refine a_ (fun _ => p_nc) ?_
  refine a_ (fun _ => p_fr) ?_
  refine a_lo ?_
  (first | refine a_ (fun _ => p_ln) ?_ | refine a_ (fun _ => p_lr) ?_)
  refine a_ (fun _ => p_su) ?_
  refine a_ (fun _ => p_gt) ?_
  refine a_ (fun _ => p_as) ?_
  apply an
  refine zC ?_
  refine ci ?_ ?_
  · intro hf
    simp only [List.length_map] at hf
    refine zC ?_
    apply cr
    refine s_ p_as ?_
    refine zC ?_
    refine zR ?_
    refine rh kR ⟨?_, ?_⟩ (Le.refl _)
    · simp [appF, hp, hf]; rfl
    · simp [appF, hp, hf]; rfl
  intro hf
  simp only [List.length_map] at hf
  refine zC ?_
  apply cr
  refine s_ p_mv ?_
  refine s_ p_nc ?_
  refine s_ p_fr ?_
  refine e_cHA hsf (fun r H' ⟨hr1, hr2⟩ => ?_)
  subst hr1 hr2
  show SimFrom _ _ _ _ ((36, .v (.bool (decide q))) :: _) [(b, ⟨tD, [ei left1, ei odd, .v (.bool dead1), .sl false (log.map eb), ei synced, .sl false (snap.map eb), ei room], 7⟩)] _
  refine s_ p_as ?_
  refine zC ?_
  apply cr
  refine s_ p_mv ?_
  refine s_ p_nc ?_
  refine s_ p_fr ?_
  refine s_ p_lo ?_
  (first | refine s_ p_ln ?_ | refine s_ p_lr ?_)
  refine s_ p_mv ?_
  (first | refine s_ p_ln ?_ | refine s_ p_lr ?_)
  refine s_ p_ad ?_
  have hcast : (((log.map eb).length : Nat) : Int) + (((x.map eb).length : Nat) : Int) = ((log.length + x.length : Nat) : Int) := by simp
  rw [hcast]
  refine e_mk (fun b6 _ => ?_)
  refine s_ p_as ?_
  refine zC ?_
  apply cr
  refine s_ p_mv ?_
  refine s_ p_mv ?_
  refine s_ p_mv ?_
  refine s_ p_nc ?_
  refine s_ p_fr ?_
  refine s_ p_lo ?_
  refine e_cp ?_ ?_
  rotate_left
  · simp [len_flat, T.cells, Value.cells]
  have hmin : min (log.map eb).length (log.length + x.length) = log.length := by simp
  rw [hmin, show ((log.map eb).take log.length).flatMap T.cells = log.map eb by rw [List.take_of_length_le (by simp), eb_cells]]
  obtain ⟨o, ho, hol, hsub⟩ : ∃ o, (o = log.length ∨ x = []) ∧ o + x.length ≤ log.length + x.length ∧ subV 1 (some ⟨b6, 0, none⟩) (log.length + x.length) ((log.length : Nat) : Int).toNat (log.length + x.length - ((log.length : Nat) : Int).toNat) = .slice (some ⟨b6, o, none⟩) x.length x.length := by
    by_cases hx0 : x = []
    · subst hx0
      exact ⟨0, .inr rfl, by simp, by simp [subV]⟩
    · have : x.length ≠ 0 := fun h => hx0 (List.length_eq_zero_iff.1 h)
      refine ⟨log.length, .inl rfl, by omega, ?_⟩
      simp only [subV, Int.toNat_natCast, Option.map_some]
      rw [if_neg (by omega), show log.length + x.length - log.length = x.length by omega]
      simp [Addr.add]
      intro h; simp [h]
  have hfin : lay (lay (List.replicate (log.length + x.length) (T.v (Value.int IntKind.u8 0)).cells).flatten 0 (log.map eb)) o (((x.map eb).take (min (x.map eb).length x.length)).flatMap T.cells) = (log ++ x).map eb := by
    have hz : ((List.replicate (log.length + x.length) (T.v (Value.int IntKind.u8 0)).cells).flatten).length = (log.map eb).length + (x.map eb).length := by simp [len_flat, T.cells, Value.cells]
    rw [List.length_map, Nat.min_self, List.take_of_length_le (by simp), eb_cells, List.map_append]
    rcases ho with rfl | rfl
    · have := lay_two _ (log.map eb) (x.map eb) hz
      rwa [List.length_map] at this
    · simp only [List.map_nil, List.append_nil, List.length_nil, Nat.add_zero] at hz ⊢
      rw [lay_whole _ _ hz]
      simp [lay]
  refine s_ (p_sbl (d := T.v (.int .u8 0)) (i := ((log.length : Nat) : Int)) (p := some ⟨b6, 0, none⟩) (n := log.length + x.length) (c := log.length + x.length) (Nat.le_refl _) hsub) ?_
  refine s_ p_mv ?_
  refine e_cp ?_ ?_
  rotate_left
  · rw [lay_length (by simp [len_flat, T.cells, Value.cells])]
    simp [len_flat, T.cells, Value.cells]; omega
  rw [hfin]
  refine zC ?_
  refine lendG 6 (bl (log ++ x)) (G := [_]) (H1 := [_]) ?_ (.refl _) ?_
  · refine OB.lend (l := log ++ x) (Hs := [_]) (.inr ⟨b6, log.length + x.length, by simp, by simp, ?_⟩) (fun _ h => h)
    rw [eb_cells]; rfl
  unfold bl
  have hA : appF ⟨left, odd, decide p, log, synced, snap, room⟩ x = (⟨left1, odd, dead1, log ++ x, synced, snap, room⟩, if decide q then 0 else 20) := by
    unfold appF
    rw [if_neg (by simpa using hp), if_neg hf, hsp]
  rw [hA]
  refine zC ?_
  apply cr
  refine s_ p_mv ?_
  refine s_ p_mv ?_
  refine s_ p_nc ?_
  refine s_ p_fr ?_
  refine e_st ?_
  refine zC ?_
  apply cr
  refine s_ p_mv ?_
  refine s_ p_no ?_
  refine zC ?_
  refine ci ?_ ?_
  · intro hq
    refine zC ?_
    apply cr
    refine s_ p_as ?_
    refine zC ?_
    refine zR ?_
    refine rh kR ⟨?_, ?_⟩ (Le.refl _)
    · simp [hq]; rfl
    · rfl
  · intro hq
    refine zC ?_
    apply cr
    refine s_ p_as ?_
    refine zC ?_
    refine zR ?_
    refine rh kR ⟨?_, ?_⟩ (Le.refl _)
    · simp [Decidable.not_not.1 hq]; rfl
    · rfl
end Go.Proofs.YtjbokbikkcfjjaaGreat
end
section
set_option maxRecDepth 16000
namespace Go.Proofs.YtjbokbikkcfjjaaGreat
open Go.Cap
set_option linter.unusedSimpArgs false
set_option linter.unusedVariables false
attribute [local irreducible] POp SimFrom DrawFrom EOp Sim FnH T.gp
def syncF (d : Dk) : Dk × Int := if d.dead then (d, 20) else if (spendF d).2 then ({ (spendF d).1 with synced := d.log.length }, 0) else ((spendF d).1, 20)
theorem sync_fn (b : Nat) (d : Dk) (hd : DkOk d) : FnH Tryz.prog 168 [pW b] (DkH b d) (fun r H => r = ei (syncF d).2 ∧ H = DkH b (syncF d).1) := by
  have hsf := spend_fn b d hd
  obtain ⟨left1, dead1, done, hsp⟩ := spend_keeps d
  obtain ⟨left, odd, dead, log, synced, snap, room⟩ := d
  obtain ⟨p, ip, rfl⟩ := dead_is dead
  simp only at hsp
  rw [hsp] at hsf
  obtain ⟨q, iq, rfl⟩ := dead_is done
  refine fn_enter Tryz.func168 (by rfl) (by rfl) ?_
  intro S0 w0
  show Sim _ _ [(0, pW b)] [(b, ⟨tD, [ei left, ei odd, .v (.bool (decide p)), .sl false (log.map eb), ei synced, .sl false (snap.map eb), ei room], 7⟩)] _
  by_cases hp : p
  · have hA : syncF ⟨left, odd, decide p, log, synced, snap, room⟩ = (⟨left, odd, decide p, log, synced, snap, room⟩, 20) := by
      unfold syncF
      rw [if_pos (by simpa using hp)]
    rw [hA]
    refine zC ?_
    apply cr
    refine s_ p_as ?_
    refine zC ?_
    apply cr
    refine s_ p_mv ?_
    refine s_ p_nc ?_
    refine s_ p_fr ?_
    refine s_ p_fr ?_
    refine s_ p_lo ?_
    refine s_ p_mv ?_
    refine gF (fun hg => p_mv) ?_
    refine gF (fun hg => p_nc (hx := u_ hg)) ?_
    refine gF (fun hg => p_fr (hx := u_ hg)) ?_
    refine gF (d := .any) (fun hg => absurd hp hg) ?_
    refine gF (d := .v (.bool (decide False))) (fun hg => absurd hp hg) ?_
    refine s_ p_or ?_
    refine zC ?_
    refine ci ?_ ?_
    · intro _
      refine zC ?_
      apply cr
      refine s_ p_as ?_
      refine zC ?_
      refine zR ?_
      exact rh kR ⟨rfl, rfl⟩ (Le.refl _)
    · intro h; exact absurd (.inl hp) h
  · have hA : syncF ⟨left, odd, decide p, log, synced, snap, room⟩ = if decide q then (⟨left1, odd, dead1, log, log.length, snap, room⟩, 0) else (⟨left1, odd, dead1, log, synced, snap, room⟩, 20) := by
      unfold syncF
      rw [if_neg (by simpa using hp), hsp]
    refine zC ?_
    apply cr
    refine s_ p_as ?_
    refine zC ?_
    apply cr
    refine s_ p_mv ?_
    refine s_ p_nc ?_
    refine s_ p_fr ?_
    refine s_ p_fr ?_
    refine s_ p_lo ?_
    refine s_ p_mv ?_
    refine gF (fun hg => p_mv) ?_
    refine gF (fun hg => p_nc (hx := u_ hg)) ?_
    refine gF (fun hg => p_fr (hx := u_ hg)) ?_
    refine gF_cH (Hr := []) hp hsf perm0 (fun r H' ⟨hr1, hr2⟩ => ?_) (ha' := by refine evl_cons (u_ hp) ?_; exact evl_nil)
    subst hr1 hr2
    show SimFrom _ _ _ _ ((12, .v (.bool (decide q))) :: _) [(b, ⟨tD, [ei left1, ei odd, .v (.bool dead1), .sl false (log.map eb), ei synced, .sl false (snap.map eb), ei room], 7⟩)] _
    refine gF (p := p) (fun hg => p_no) ?_
    refine s_ p_or ?_
    refine zC ?_
    refine ci ?_ ?_
    · intro h
      have hq : ¬ q := h.resolve_left hp
      rw [hA, if_neg (by simpa using hq)]
      refine zC ?_
      apply cr
      refine s_ p_as ?_
      refine zC ?_
      refine zR ?_
      exact rh kR ⟨rfl, rfl⟩ (Le.refl _)
    · intro h
      have hq : q := Decidable.not_not.1 fun hn => h (.inr hn)
      rw [hA, if_pos (by simpa using hq)]
      refine zC ?_
      apply cr
      refine s_ p_mv ?_
      refine s_ p_mv ?_
      refine s_ p_nc ?_
      refine s_ p_fr ?_
      refine s_ p_lo ?_
      (first | refine s_ p_ln ?_ | refine s_ p_lr ?_)
      refine s_ p_nc ?_
      refine s_ p_fr ?_
      refine e_st ?_
      refine zC ?_
      apply cr
      refine s_ p_as ?_
      refine zC ?_
      refine zR ?_
      refine rh kR ⟨rfl, ?_⟩ (Le.refl _)
      simp only [List.length_map]; rfl
def cutF (d : Dk) (n : Int) : Dk × Int := if d.dead then (d, 20) else if n < 0 ∨ (d.log.length : Int) < n then (d, 1) else
  (if (spendF d).2 = true ∨ d.odd = 0 then { (spendF d).1 with log := d.log.take n.toNat, synced := n } else (spendF d).1, if (spendF d).2 then 0 else 20)
theorem cut_fn (b : Nat) (d : Dk) (n : Int) (hd : DkOk d) : FnH Tryz.prog 96 [pW b, ei n] (DkH b d) (fun r H => r = ei (cutF d n).2 ∧ H = DkH b (cutF d n).1) := by
  have hu := hd.used
  have hsf := spend_fn b d hd
  obtain ⟨left1, dead1, done, hsp⟩ := spend_keeps d
  obtain ⟨left, odd, dead, log, synced, snap, room⟩ := d
  obtain ⟨p, ip, rfl⟩ := dead_is dead
  simp only at hsp hu
  rw [hsp] at hsf
  obtain ⟨q, iq, rfl⟩ := dead_is done
  refine fn_enter Tryz.func96 (by rfl) (by rfl) ?_
  intro S0 w0
  show Sim _ _ [(0, pW b), (1, ei n)] [(b, ⟨tD, [ei left, ei odd, .v (.bool (decide p)), .sl false (log.map eb), ei synced, .sl false (snap.map eb), ei room], 7⟩)] _
  refine zC ?_
  apply cr
  refine s_ p_as ?_
  refine zC ?_
  apply cr
  refine s_ p_mv ?_
  refine s_ p_nc ?_
  refine s_ p_fr ?_
  refine s_ p_fr ?_
  refine s_ p_lo ?_
  refine s_ p_as ?_
  refine zC ?_
  refine ci ?_ ?_
  · intro hp
    have hA : cutF ⟨left, odd, decide p, log, synced, snap, room⟩ n = (⟨left, odd, decide p, log, synced, snap, room⟩, 20) := by
      unfold cutF
      rw [if_pos (by simpa using hp)]
    rw [hA]
    refine zC ?_
    apply cr
    refine s_ p_as ?_
    refine zC ?_
    refine zR ?_
    exact rh kR ⟨rfl, rfl⟩ (Le.refl _)
  intro hp
  refine zC ?_
  apply cr
  refine s_ p_mv ?_
  refine s_ p_lt ?_
  refine s_ p_mv ?_
  refine gF (fun hg => p_mv) ?_
  refine gF (fun hg => p_mv) ?_
  refine gF (fun hg => p_nc (hx := u_ hg)) ?_
  refine gF (fun hg => p_fr (hx := u_ hg)) ?_
  refine gF (fun hg => p_lo (hx := u_ hg)) ?_
  (first | refine gF (fun hg => p_ln (hx := u_ hg)) ?_ | refine gF (fun hg => p_lr (hx := u_ hg)) ?_)
  refine gF (fun hg => p_gt (hx := u_ hg) (hy := u_ hg)) ?_
  refine s_ p_or ?_
  refine s_ p_as ?_
  refine zC ?_
  refine ci ?_ ?_
  · intro hf
    simp only [List.length_map] at hf
    have hA : cutF ⟨left, odd, decide p, log, synced, snap, room⟩ n = (⟨left, odd, decide p, log, synced, snap, room⟩, 1) := by
      unfold cutF
      rw [if_neg (by simpa using hp), if_pos hf]
    rw [hA]
    refine zC ?_
    apply cr
    refine s_ p_as ?_
    refine zC ?_
    refine zR ?_
    exact rh kR ⟨rfl, rfl⟩ (Le.refl _)
  intro hf
  simp only [List.length_map] at hf
  have hA : cutF ⟨left, odd, decide p, log, synced, snap, room⟩ n = (if q ∨ odd = 0 then ⟨left1, odd, dead1, log.take n.toNat, n, snap, room⟩ else ⟨left1, odd, dead1, log, synced, snap, room⟩, if decide q then 0 else 20) := by
    unfold cutF
    rw [if_neg (by simpa using hp), if_neg hf, hsp]
    simp only [decide_eq_true_eq]
  rw [hA]
  have ho := own_fn (log.take n.toNat) (by rw [List.length_take]; omega)
  refine zC ?_
  apply cr
  refine s_ p_mv ?_
  refine s_ p_nc ?_
  refine s_ p_fr ?_
  refine e_cHA hsf (fun r H' ⟨hr1, hr2⟩ => ?_)
  subst hr1 hr2
  show SimFrom _ _ _ _ ((27, .v (.bool (decide q))) :: _) [(b, ⟨tD, [ei left1, ei odd, .v (.bool dead1), .sl false (log.map eb), ei synced, .sl false (snap.map eb), ei room], 7⟩)] _
  refine s_ p_as ?_
  refine zC ?_
  apply cr
  refine s_ p_mv ?_
  refine s_ p_mv ?_
  refine gF (fun hg => p_mv) ?_
  refine gF (fun hg => p_nc (hx := u_ hg)) ?_
  refine gF (fun hg => p_fr (hx := u_ hg)) ?_
  refine gF (fun hg => p_fr (hx := u_ hg)) ?_
  refine gF (fun hg => p_lo (hx := u_ hg)) ?_
  refine gF (fun hg => p_eq (hx := u_ hg)) ?_
  refine s_ p_or ?_
  refine zC ?_
  refine ci ?_ ?_
  · intro ho2
    rw [if_pos ho2]
    refine zC ?_
    apply cr
    refine s_ p_mv ?_
    refine s_ p_mv ?_
    refine s_ p_mv ?_
    refine s_ p_nc ?_
    refine s_ p_fr ?_
    refine s_ p_lo ?_
    refine s_ p_mv ?_
    refine s_ (p_s0hE (i := n) (xs := log.map eb) (ys := (log.take n.toNat).map eb) (by rw [List.map_take]) (h2 := by simp only [List.length_map]; omega)) ?_
    refine s_ (p_ca (ho)) ?_
    refine s_ p_mv ?_
    refine s_ p_nc ?_
    refine s_ p_fr ?_
    refine e_st ?_
    refine s_ p_nc ?_
    refine s_ p_fr ?_
    refine e_st ?_
    refine zC ?_
    apply cr
    refine s_ p_mv ?_
    refine s_ p_no ?_
    refine zC ?_
    refine ci ?_ ?_
    · intro hq
      refine zC ?_
      apply cr
      refine s_ p_as ?_
      refine zC ?_
      refine zR ?_
      refine rh kR ⟨?_, rfl⟩ (Le.refl _)
      simp [hq]; rfl
    · intro hq
      refine zC ?_
      apply cr
      refine s_ p_as ?_
      refine zC ?_
      refine zR ?_
      refine rh kR ⟨?_, rfl⟩ (Le.refl _)
      simp [Decidable.not_not.1 hq]; rfl
  · intro ho2
    rw [if_neg ho2]
    refine zC ?_
    apply cr
    refine s_ p_mv ?_
    refine s_ p_no ?_
    refine zC ?_
    refine ci ?_ ?_
    · intro hq
      refine zC ?_
      apply cr
      refine s_ p_as ?_
      refine zC ?_
      refine zR ?_
      refine rh kR ⟨?_, rfl⟩ (Le.refl _)
      simp [hq]; rfl
    · intro hq
      exact absurd (.inl (Decidable.not_not.1 hq)) ho2
def swapF (d : Dk) (x : List UInt8) : Dk × Int := if d.dead then (d, 20) else if d.room < x.length then (d, 19) else
  (if (spendF d).2 = true ∨ d.odd = 0 then { (spendF d).1 with snap := x, log := [], synced := 0 } else (spendF d).1, if (spendF d).2 then 0 else 20)
theorem swap_fn (b : Nat) (d : Dk) (x : List UInt8) (hd : DkOk d) (hx : x.length ≤ 1000000000) : FnH Tryz.prog 169 [pW b, bl x] (DkH b d) (fun r H => r = ei (swapF d x).2 ∧ H = DkH b (swapF d x).1) := by
  have hsf := spend_fn b d hd
  obtain ⟨left1, dead1, done, hsp⟩ := spend_keeps d
  obtain ⟨left, odd, dead, log, synced, snap, room⟩ := d
  obtain ⟨p, ip, rfl⟩ := dead_is dead
  simp only at hsp
  rw [hsp] at hsf
  obtain ⟨q, iq, rfl⟩ := dead_is done
  have ho := own_fn x (by omega)
  refine fn_enter Tryz.func169 (by rfl) (by rfl) ?_
  intro S0 w0
  show Sim _ _ [(0, pW b), (1, .sl false (x.map eb))] [(b, ⟨tD, [ei left, ei odd, .v (.bool (decide p)), .sl false (log.map eb), ei synced, .sl false (snap.map eb), ei room], 7⟩)] _
  refine zC ?_
  apply cr
  refine s_ p_as ?_
  refine zC ?_
  apply cr
  refine s_ p_mv ?_
  refine s_ p_nc ?_
  refine s_ p_fr ?_
  refine s_ p_fr ?_
  refine s_ p_lo ?_
  refine s_ p_as ?_
  refine zC ?_
  refine ci ?_ ?_
  · intro hp
    have hA : swapF ⟨left, odd, decide p, log, synced, snap, room⟩ x = (⟨left, odd, decide p, log, synced, snap, room⟩, 20) := by
      unfold swapF
      rw [if_pos (by simpa using hp)]
    rw [hA]
    refine zC ?_
    apply cr
    refine s_ p_as ?_
    refine zC ?_
    refine zR ?_
    exact rh kR ⟨rfl, rfl⟩ (Le.refl _)
  intro hp
  refine zC ?_
  apply cr
  refine s_ p_mv ?_
  (first | refine s_ p_ln ?_ | refine s_ p_lr ?_)
  refine s_ p_mv ?_
  refine s_ p_nc ?_
  refine s_ p_fr ?_
  refine s_ p_lo ?_
  refine s_ p_gt ?_
  refine s_ p_as ?_
  refine zC ?_
  refine ci ?_ ?_
  · intro hf
    simp only [List.length_map] at hf
    have hA : swapF ⟨left, odd, decide p, log, synced, snap, room⟩ x = (⟨left, odd, decide p, log, synced, snap, room⟩, 19) := by
      unfold swapF
      rw [if_neg (by simpa using hp), if_pos hf]
    rw [hA]
    refine zC ?_
    apply cr
    refine s_ p_as ?_
    refine zC ?_
    refine zR ?_
    exact rh kR ⟨rfl, rfl⟩ (Le.refl _)
  intro hf
  simp only [List.length_map] at hf
  have hA : swapF ⟨left, odd, decide p, log, synced, snap, room⟩ x = (if q ∨ odd = 0 then ⟨left1, odd, dead1, [], 0, x, room⟩ else ⟨left1, odd, dead1, log, synced, snap, room⟩, if decide q then 0 else 20) := by
    unfold swapF
    rw [if_neg (by simpa using hp), if_neg hf, hsp]
    simp only [decide_eq_true_eq]
  rw [hA]
  refine zC ?_
  apply cr
  refine s_ p_mv ?_
  refine s_ p_nc ?_
  refine s_ p_fr ?_
  refine e_cHA hsf (fun r H' ⟨hr1, hr2⟩ => ?_)
  subst hr1 hr2
  show SimFrom _ _ _ _ ((23, .v (.bool (decide q))) :: _) [(b, ⟨tD, [ei left1, ei odd, .v (.bool dead1), .sl false (log.map eb), ei synced, .sl false (snap.map eb), ei room], 7⟩)] _
  refine s_ p_as ?_
  refine zC ?_
  apply cr
  refine s_ p_mv ?_
  refine s_ p_mv ?_
  refine gF (fun hg => p_mv) ?_
  refine gF (fun hg => p_nc (hx := u_ hg)) ?_
  refine gF (fun hg => p_fr (hx := u_ hg)) ?_
  refine gF (fun hg => p_fr (hx := u_ hg)) ?_
  refine gF (fun hg => p_lo (hx := u_ hg)) ?_
  refine gF (fun hg => p_eq (hx := u_ hg)) ?_
  refine s_ p_or ?_
  refine zC ?_
  refine ci ?_ ?_
  · intro ho2
    rw [if_pos ho2]
    refine zC ?_
    apply cr
    refine s_ p_mv ?_
    refine s_ p_mv ?_
    refine s_ p_mv ?_
    refine s_ p_mv ?_
    refine s_ (p_ca (ho)) ?_
    refine s_ p_nc ?_
    refine s_ p_fr ?_
    refine e_st ?_
    refine s_ p_nc ?_
    refine s_ p_fr ?_
    refine e_st ?_
    refine s_ p_nc ?_
    refine s_ p_fr ?_
    refine e_st ?_
    refine zC ?_
    apply cr
    refine s_ p_mv ?_
    refine s_ p_no ?_
    refine zC ?_
    refine ci ?_ ?_
    · intro hq
      refine zC ?_
      apply cr
      refine s_ p_as ?_
      refine zC ?_
      refine zR ?_
      refine rh (H' := DkH b ⟨left1, odd, dead1, [], 0, x, room⟩) (kK kR) ⟨?_, rfl⟩ (Le.refl _)
      simp [hq]; rfl
    · intro hq
      refine zC ?_
      apply cr
      refine s_ p_as ?_
      refine zC ?_
      refine zR ?_
      refine rh (H' := DkH b ⟨left1, odd, dead1, [], 0, x, room⟩) (kK kR) ⟨?_, rfl⟩ (Le.refl _)
      simp [Decidable.not_not.1 hq]; rfl
  · intro ho2
    rw [if_neg ho2]
    refine zC ?_
    apply cr
    refine s_ p_mv ?_
    refine s_ p_no ?_
    refine zC ?_
    refine ci ?_ ?_
    · intro hq
      refine zC ?_
      apply cr
      refine s_ p_as ?_
      refine zC ?_
      refine zR ?_
      refine rh kR ⟨?_, rfl⟩ (Le.refl _)
      simp [hq]; rfl
    · intro hq
      exact absurd (.inl (Decidable.not_not.1 hq)) ho2
theorem newD_fn (n : Int) (h0 : 1 ≤ n) (h1 : n ≤ 16777216) : FnH Tryz.prog 26 [ei n] [] (fun r H => ∃ b, r = .tup [pW b, ei 0] ∧ H = DkH b ⟨0, 0, false, [], 0, [], n⟩) := by
  refine fn_enter Tryz.func26 (by rfl) (by rfl) ?_
  intro S0 w0
  show Sim _ _ [(0, ei n)] _ _
  refine zC ?_
  apply cr
  refine s_ p_as ?_
  refine s_ p_as ?_
  refine zC ?_
  apply cr
  refine s_ p_mv ?_
  refine s_ p_lt ?_
  refine s_ p_mv ?_
  refine gF (fun hg => p_mv) ?_
  refine gF (fun hg => p_gt (hx := u_ hg)) ?_
  refine s_ p_or ?_
  refine zC ?_
  refine ci ?_ ?_
  · intro h; exact absurd h (by omega)
  intro _
  refine zC ?_
  apply cr
  refine s_ p_mv ?_
  refine s_ (p_bd 7 [_, _, _, _, _, _, _]) ?_
  refine e_bx fun b12 _ => ?_
  refine s_ p_as ?_
  refine s_ p_as ?_
  refine zC ?_
  refine zR ?_
  exact rh (H' := DkH b12 ⟨0, 0, false, [], 0, [], n⟩) (kK kR) ⟨_, rfl, rfl⟩ (Le.refl _)
theorem dead_fn (b : Nat) (d : Dk) : FnH Tryz.prog 74 [pW b] (DkH b d) (fun r H => r = eB d.dead ∧ H = DkH b d) := by
  refine fn_enter Tryz.func74 (by rfl) (by rfl) ?_
  intro S0 w0
  show Sim _ _ [(0, pW b)] (DkH b d) _
  unfold DkH dkC
  refine zC ?_
  apply cr
  refine s_ p_as ?_
  refine zC ?_
  apply cr
  refine s_ p_mv ?_
  refine s_ p_nc ?_
  refine s_ p_fr ?_
  refine s_ p_lo ?_
  refine s_ p_as ?_
  refine zC ?_
  refine zR ?_
  exact rh kR ⟨rfl, rfl⟩ (Le.refl _)
theorem dlog_fn (b : Nat) (d : Dk) (hd : DkOk d) : FnH Tryz.prog 94 [pW b] (DkH b d) (fun r H => r = bl d.log ∧ H = DkH b d) := by
  have hu := hd.used
  have ho := own_fn d.log (by omega)
  refine fn_enter Tryz.func94 (by rfl) (by rfl) ?_
  intro S0 w0
  show Sim _ _ [(0, pW b)] (DkH b d) _
  unfold DkH dkC
  refine zC ?_
  apply cr
  refine s_ p_as ?_
  refine zC ?_
  apply cr
  refine s_ p_mv ?_
  refine s_ p_nc ?_
  refine s_ p_fr ?_
  refine s_ p_lo ?_
  refine s_ (p_ca (ho)) ?_
  refine s_ p_as ?_
  refine zC ?_
  refine zR ?_
  exact rh kR ⟨rfl, rfl⟩ (Le.refl _)
theorem dsnap_fn (b : Nat) (d : Dk) (hd : DkOk d) : FnH Tryz.prog 92 [pW b] (DkH b d) (fun r H => r = bl d.snap ∧ H = DkH b d) := by
  have hu := hd.used
  have ho := own_fn d.snap (by omega)
  refine fn_enter Tryz.func92 (by rfl) (by rfl) ?_
  intro S0 w0
  show Sim _ _ [(0, pW b)] (DkH b d) _
  unfold DkH dkC
  refine zC ?_
  apply cr
  refine s_ p_as ?_
  refine zC ?_
  apply cr
  refine s_ p_mv ?_
  refine s_ p_nc ?_
  refine s_ p_fr ?_
  refine s_ p_lo ?_
  refine s_ (p_ca (ho)) ?_
  refine s_ p_as ?_
  refine zC ?_
  refine zR ?_
  exact rh kR ⟨rfl, rfl⟩ (Le.refl _)
def stayK (d : Dk) (pick : Int) : Int := let n := (d.log.length : Int) - d.synced + 1; ((pick.tmod n) + n).tmod n
def crashF (d : Dk) (pick : Int) : Dk := { d with left := 0, odd := 0, dead := false, log := d.log.take (d.synced + stayK d pick).toNat, synced := ((d.log.take (d.synced + stayK d pick).toNat).length : Nat) }
theorem stayK_range (d : Dk) (pick : Int) (h0 : 0 ≤ d.synced) (h1 : d.synced ≤ d.log.length) : 0 ≤ stayK d pick ∧ stayK d pick ≤ (d.log.length : Int) - d.synced := by
  unfold stayK
  obtain ⟨n, hn⟩ : ∃ n, n = (d.log.length : Int) - d.synced + 1 := ⟨_, rfl⟩
  rw [← hn]
  have hp : 0 < n := by omega
  have h2 := tmod_fix pick n hp
  have h3 : 0 ≤ pick.tmod n + n := by
    have := Int.emod_nonneg pick (show n ≠ 0 by omega)
    by_cases h : pick.tmod n < 0
    · rw [h2.1 h]; exact this
    · omega
  have h4 := Int.tmod_nonneg n h3
  have h5 := Int.tmod_lt_of_pos (pick.tmod n + n) hp
  show 0 ≤ (pick.tmod n + n).tmod n ∧ (pick.tmod n + n).tmod n ≤ _
  omega
end Go.Proofs.YtjbokbikkcfjjaaGreat
end
