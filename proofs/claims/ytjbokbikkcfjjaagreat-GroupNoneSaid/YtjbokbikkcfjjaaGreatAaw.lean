/-
  disk: a log, a snapshot, power.
  disk: Sync, Cut, Swap; New, Stop, Dead, Log, Snap, Crash.
  journal: Add, Snap, Count.
  journal.Open.
-/
import Derived.Test.YtjbokbikkcfjjaaGreatAav
import Derived.Test.YtjbokbikkcfjjaaGreatAao
section
set_option maxRecDepth 16000
namespace Go.Cap
section
variable {K : Ctx} {t : Env} {H Hs Hr : Heap} {N : Env → Heap → Prop} {ops : Array Oper} {i j kg : Nat} {l : List Oper} {ty ty' tp : TypeId} {pos : String} {aft : Array Edge} {kd : Tmp} {p : Prop} {ip : Decidable p}
theorem g_eff {dst : Option Tmp} {op : Op} {want b0 : Bool} (hj : (ops[j]?).bind (·.dst) = some kg) (hb : t.get kg = .v (.bool b0)) (hw : b0 = want) (h : EOp K t H ⟨dst, op, tp, pos, aft, some (j, want)⟩ (fun t' H' => SimFrom K ops (i + 1) l t' H' N)) :
    SimFrom K ops i (⟨dst, op, tp, pos, aft, some (j, want)⟩ :: l) t H N := by
  intro hl a w Q hr hq
  rw [wpOps_at]
  unfold wpOpIn
  have hv : a.tmps.getD kg undef = .bool b0 := by obtain ⟨S, hr⟩ := hr; have := hr.env kg; rw [hb] at this; exact this.v_eq
  simp only [at_ops hl, (wanted_some (o := ⟨dst, op, tp, pos, aft, some (j, want)⟩) rfl hj hv).1 (by rw [hw]), if_true]
  exact h a w hr _ Q fun t' H' a' w' hn hr' => hn (at_rest hl) a' w' Q hr' hq
theorem gF_cH {f : FuncId} {xs : Array Operand} {ats : Array TypeId} {args : List T} {Φ : T → Heap → Prop} (hp : ¬ p) (hf : FnH K.P f args Hs Φ) (hP : H.Perm (Hs ++ Hr)) (hn : ∀ r H', Φ r H' → SimFrom K ops (i + 1) l ((kd, r) :: t) (H' ++ Hr) N) (hj : (ops[j]?).bind (·.dst) = some kg := by rfl) (hb : autoParam (t.get kg = .v (.bool (decide p))) zG._auto_1)
    (ha' : EvL t xs.toList args) (hc : callable K.P f = true := by rfl) (hd : okDst (some kd) K.n = true := by rfl) : SimFrom K ops i (⟨some kd, .call ⟨.value (.func f), xs, ats⟩, tp, pos, aft, some (j, false)⟩ :: l) t H N :=
  g_eff hj hb (by simpa using hp) (eop_callH hf hP hc ha' hd hn)
theorem e_mk {x : Operand} {n : Nat} {d : T} {by_ : Nat} {k : IntKind} [hz : ElemZC K.P ty d by_] (h : ∀ b, (∀ c ∈ keys H, ¬ c = b) → SimFrom K ops (i + 1) l ((kd, .v (.slice (some ⟨b, 0, none⟩) n n)) :: t) ((b, ⟨elemTy K.P ty, (List.replicate n d.cells).flatten, n * d.cells.length⟩) :: H) N)
    (hx : autoParam (t.ev x = .v (.int k n)) zl._auto_1) (hb : autoParam (n * by_ ≤ 281474976710656) zo._auto_1) (hm : autoParam ((n : Int) ≤ 9223372036854775807) zo._auto_1) (hd : Nat.blt kd K.n = true := by rfl) : SimFrom K ops i (⟨some kd, .makeSlice ty x x, tp, pos, aft, none⟩ :: l) t H N :=
  from_e (eop_make hx hx (by omega) (Int.le_refl _) (by rw [Int.toNat_natCast]; exact hb) hm hd (by simpa using h))
theorem e_cp {x y : Operand} {b o n c m : Nat} {ty0 : TypeId} {cells : List T} {f : Bool} {xs : List T} {kk : Nat} {H' : Heap} [hs : ElemSzC K.P ty kk] (h : SimFrom K ops (i + 1) l ((kd, .v (.int .i64 (min xs.length n : Nat))) :: t) H' N) (ho : o + min xs.length n * kk ≤ cells.length) (hx : autoParam (t.ev x = .v (.slice (some ⟨b, o, none⟩) n c)) zl._auto_1) (hy : autoParam (t.ev y = .sl f xs) zl._auto_1)
    (hi : autoParam (HRep H (b, ⟨ty0, cells, m⟩) (b, ⟨ty0, lay cells o ((xs.take (min xs.length n)).flatMap T.cells), m⟩) H') zr._auto_1) (hp : Nat.blt 0 kk = true := by rfl) (hk : autoParam (∀ x ∈ xs, x.cells.length = kk) zk._auto_1) (hl : autoParam (∀ x ∈ xs, allLeaf x.cells = true) zf._auto_1) (hd : Nat.blt kd K.n = true := by rfl) :
    SimFrom K ops i (⟨some kd, .call ⟨.builtin .copy, #[x, y], #[ty, ty']⟩, tp, pos, aft, none⟩ :: l) t H N := from_e (eop_copyO hx hy hi hp hk hl ho hd h)
end
end Go.Cap
namespace Go.Proofs.YtjbokbikkcfjjaaGreat
open Go.Cap
set_option linter.unusedSimpArgs false
set_option linter.unusedVariables false
attribute [local irreducible] POp SimFrom DrawFrom EOp Sim FnH T.gp
theorem eb_cells (l : List UInt8) : (l.map eb).flatMap T.cells = l.map eb := flat_map1 eb (fun _ => rfl) l
theorem lay_two (Z A B : List T) (h : Z.length = A.length + B.length) : lay (lay Z 0 A) A.length B = A ++ B := by
  unfold lay
  simp only [List.take_zero, List.nil_append, Nat.zero_add]
  rw [List.take_left' rfl, List.drop_of_length_le (l := A ++ Z.drop A.length) (by simp; omega), List.append_nil]
theorem own_fn (l : List UInt8) (hl : l.length ≤ 1000000000000) : FnP Tryz.prog 73 [bl l] (fun r => r = bl l) := by
  refine FnH.give (Φ := fun r H => ∃ v, r = .v v ∧ OB l v H) ?_ (by rintro r H ⟨v, rfl, ho⟩; exact ho.lend fun _ h => h)
  refine fn_enter Tryz.func73 (by rfl) (by rfl) ?_
  intro S0 w0
  show Sim _ _ [(0, .sl false (l.map eb))] _ _
  refine zC ?_
  apply cr
  refine s_ p_as ?_
  refine zC ?_
  apply cr
  refine s_ p_mv ?_
  (first | refine s_ p_ln ?_ | refine s_ p_lr ?_)
  refine e_mk (fun b6 _ => ?_)
  refine s_ p_as ?_
  refine zC ?_
  apply cr
  refine s_ p_mv ?_
  refine s_ p_mv ?_
  refine e_cp ?_ ?_
  rotate_left
  · simp [len_flat, T.cells, Value.cells]
  
  refine zC ?_
  apply cr
  refine s_ p_mv ?_
  refine s_ p_as ?_
  refine zC ?_
  refine zR ?_
  refine rh kR ⟨_, rfl, .inr ⟨b6, (l.map eb).length, rfl, Nat.le_refl _, ?_⟩⟩ (Le.refl _)
  rw [Nat.min_self, List.take_length, eb_cells, lay_whole _ _ (by rw [len_flat]; simp [T.cells, Value.cells])]
  rfl
structure Dk where
  left : Int
  odd : Int
  dead : Bool
  log : List UInt8
  synced : Int
  snap : List UInt8
  room : Int
def tD : TypeId := 89
def dkC (d : Dk) : List T := [ei d.left, ei d.odd, eB d.dead, bl d.log, ei d.synced, bl d.snap, ei d.room]
def DkH (b : Nat) (d : Dk) : Heap := [(b, ⟨tD, dkC d, 7⟩)]
structure DkOk (d : Dk) : Prop where
  l0 : 0 ≤ d.left
  l1 : d.left ≤ 1000000000
  r0 : 0 ≤ d.room
  r1 : d.room ≤ 16777216
  used : ((d.log.length + d.snap.length : Nat) : Int) ≤ 100000000
theorem dead_is (b : Bool) : ∃ (p : Prop) (ip : Decidable p), b = @decide p ip := ⟨b = true, inferInstance, by simp⟩
def spendF (d : Dk) : Dk × Bool := if 0 < d.left then ({ d with left := d.left - 1, dead := decide (d.left - 1 = 0) }, !decide (d.left - 1 = 0)) else (d, !d.dead)
theorem spend_fn (b : Nat) (d : Dk) (hd : DkOk d) : FnH Tryz.prog 128 [pW b] (DkH b d) (fun r H => r = eB (spendF d).2 ∧ H = DkH b (spendF d).1) := by
  have h1 := hd.l1
  obtain ⟨left, odd, dead, log, synced, snap, room⟩ := d
  obtain ⟨p, ip, rfl⟩ := dead_is dead
  simp only at h1
  refine fn_enter Tryz.func128 (by rfl) (by rfl) ?_
  intro S0 w0
  show Sim _ _ [(0, pW b)] (DkH b _) _
  unfold DkH dkC eB
  refine zC ?_
  apply cr
  refine s_ p_as ?_
  refine zC ?_
  apply cr
  refine s_ p_mv ?_
  refine s_ p_nc ?_
  refine s_ p_fr ?_
  refine s_ p_lo ?_
  refine s_ p_gt ?_
  refine zC ?_
  refine ci ?_ ?_
  · intro hlt
    have hlt' : 0 < left := hlt
    refine zC ?_
    apply cr
    refine s_ p_mv ?_
    refine s_ p_nc ?_
    refine s_ p_fr ?_
    refine s_ p_lo ?_
    refine s_ p_su ?_
    refine s_ p_nc ?_
    refine s_ p_fr ?_
    refine e_st ?_
    refine zC ?_
    apply cr
    refine s_ p_mv ?_
    refine s_ p_mv ?_
    refine s_ p_nc ?_
    refine s_ p_fr ?_
    refine s_ p_lo ?_
    refine s_ p_eq ?_
    refine s_ p_nc ?_
    refine s_ p_fr ?_
    refine e_st ?_
    refine zC ?_
    apply cr
    refine s_ p_mv ?_
    refine s_ p_nc ?_
    refine s_ p_fr ?_
    refine s_ p_lo ?_
    refine s_ p_no ?_
    refine s_ p_as ?_
    refine zC ?_
    refine zR ?_
    refine rh kR (d := eB (!decide (left - 1 = 0))) ?_ ?_
    · simp only [spendF, if_pos hlt']
      exact ⟨rfl, rfl⟩
    · exact Le.of_eq (by simp [packT, eB])
  · intro hlt
    have hlt' : ¬ 0 < left := hlt
    refine zC ?_
    apply cr
    refine s_ p_mv ?_
    refine s_ p_nc ?_
    refine s_ p_fr ?_
    refine s_ p_lo ?_
    refine s_ p_no ?_
    refine s_ p_as ?_
    refine zC ?_
    refine zR ?_
    refine rh kR (d := eB (!decide p)) ?_ ?_
    · simp only [spendF, if_neg hlt']
      exact ⟨rfl, trivial⟩
    · exact Le.of_eq (by simp [packT, eB])
theorem spend_keeps (d : Dk) : ∃ left dead done, spendF d = (⟨left, d.odd, dead, d.log, d.synced, d.snap, d.room⟩, done) := by
  unfold spendF
  split
  · exact ⟨_, _, _, rfl⟩
  · exact ⟨_, _, _, rfl⟩
def appF (d : Dk) (x : List UInt8) : Dk × Int := if d.dead then (d, 20) else if d.room - d.log.length - d.snap.length < x.length then (d, 19) else
  ({ (spendF d).1 with log := d.log ++ x }, if (spendF d).2 then 0 else 20)
theorem disk_app_fn (b : Nat) (d : Dk) (x : List UInt8) (hd : DkOk d) (hx : x.length ≤ 1000000000) : FnH Tryz.prog 167 [pW b, bl x] (DkH b d) (fun r H => r = ei (appF d x).2 ∧ H = DkH b (appF d x).1) := by
  have hr0 := hd.r0
  have hr1 := hd.r1
  have hu := hd.used
  have hsf := spend_fn b d hd
  obtain ⟨left1, dead1, done, hsp⟩ := spend_keeps d
  obtain ⟨left, odd, dead, log, synced, snap, room⟩ := d
  obtain ⟨p, ip, rfl⟩ := dead_is dead
  simp only at hr0 hr1 hu hsp
  rw [hsp] at hsf
  obtain ⟨q, iq, rfl⟩ := dead_is done
  refine fn_enter Tryz.func167 (by rfl) (by rfl) ?_
  intro S0 w0
  show Sim _ _ [(0, pW b), (1, .sl false (x.map eb))] [(b, ⟨tD, [ei left, ei odd, .v (.bool (decide p)), .sl false (log.map eb), ei synced, .sl false (snap.map eb), ei room], 7⟩)] _
  refine zC ?_
  apply cr
  refine s_ p_as ?_
  refine zC ?_
  apply cr
  refine s_ p_mv ?_
  refine s_ p_nc ?_
  refine s_ p_fr ?_
  refine s_ p_fr ?_
  refine s_ p_lo ?_
  refine s_ p_as ?_
  refine zC ?_
  refine ci ?_ ?_
  · intro hp
    refine zC ?_
    apply cr
    refine s_ p_as ?_
    refine zC ?_
    refine zR ?_
    refine rh kR ⟨?_, ?_⟩ (Le.refl _)
    · simp [appF, hp]; rfl
    · simp [appF, hp]; rfl
  intro hp
  refine zC ?_
  refine ca [0, 1, 2, 3, 4, 5, 6, 7, 8, 9, 10, 11, 12, 13, 14, 15, 16, 17, 18, 19] [] ?_
  refine a_ (fun _ => p_mv) ?_
  (first | refine a_ (fun _ => p_ln) ?_ | refine a_ (fun _ => p_lr) ?_)
  refine a_ (fun _ => p_mv) ?_
  refine a_ (fun _ => p_nc) ?_
  refine a_ (fun _ => p_fr) ?_
  refine a_lo ?_
  refine a_ (fun _ => p_mv) ?_
  refine a_ (fun _ => p_nc) ?_
  refine a_ (fun _ => p_fr) ?_
  refine a_lo ?_
  (first | refine a_ (fun _ => p_ln) ?_ | refine a_ (fun _ => p_lr) ?_)
  refine a_ (fun _ => p_su) ?_
  refine a_ (fun _ => p_mv) ?_
  refine a_ (fun _ => p_nc) ?_
  refine a_ (fun _ => p_fr) ?_
  refine a_lo ?_
  (first | refine a_ (fun _ => p_ln) ?_ | refine a_ (fun _ => p_lr) ?_)
  refine a_ (fun _ => p_su) ?_
  refine a_ (fun _ => p_gt) ?_
  refine a_ (fun _ => p_as) ?_
  apply an
  refine zC ?_
  refine ci ?_ ?_
  · intro hf
    simp only [List.length_map] at hf
    refine zC ?_
    apply cr
    refine s_ p_as ?_
    refine zC ?_
    refine zR ?_
    refine rh kR ⟨?_, ?_⟩ (Le.refl _)
    · simp [appF, hp, hf]; rfl
    · simp [appF, hp, hf]; rfl
  intro hf
  simp only [List.length_map] at hf
  refine zC ?_
  apply cr
  refine s_ p_mv ?_
  refine s_ p_nc ?_
  refine s_ p_fr ?_
  refine e_cHA hsf (fun r H' ⟨hr1, hr2⟩ => ?_)
  subst hr1 hr2
  show SimFrom _ _ _ _ ((36, .v (.bool (decide q))) :: _) [(b, ⟨tD, [ei left1, ei odd, .v (.bool dead1), .sl false (log.map eb), ei synced, .sl false (snap.map eb), ei room], 7⟩)] _
  refine s_ p_as ?_
  refine zC ?_
  apply cr
  refine s_ p_mv ?_
  refine s_ p_nc ?_
  refine s_ p_fr ?_
  refine s_ p_lo ?_
  (first | refine s_ p_ln ?_ | refine s_ p_lr ?_)
  refine s_ p_mv ?_
  (first | refine s_ p_ln ?_ | refine s_ p_lr ?_)
  refine s_ p_ad ?_
  have hcast : (((log.map eb).length : Nat) : Int) + (((x.map eb).length : Nat) : Int) = ((log.length + x.length : Nat) : Int) := by simp
  rw [hcast]
  refine e_mk (fun b6 _ => ?_)
  refine s_ p_as ?_
  refine zC ?_
  apply cr
  refine s_ p_mv ?_
  refine s_ p_mv ?_
  refine s_ p_mv ?_
  refine s_ p_nc ?_
  refine s_ p_fr ?_
  refine s_ p_lo ?_
  refine e_cp ?_ ?_
  rotate_left
  · simp [len_flat, T.cells, Value.cells]
  have hmin : min (log.map eb).length (log.length + x.length) = log.length := by simp
  rw [hmin, show ((log.map eb).take log.length).flatMap T.cells = log.map eb by rw [List.take_of_length_le (by simp), eb_cells]]
  obtain ⟨o, ho, hol, hsub⟩ : ∃ o, (o = log.length ∨ x = []) ∧ o + x.length ≤ log.length + x.length ∧ subV 1 (some ⟨b6, 0, none⟩) (log.length + x.length) ((log.length : Nat) : Int).toNat (log.length + x.length - ((log.length : Nat) : Int).toNat) = .slice (some ⟨b6, o, none⟩) x.length x.length := by
    by_cases hx0 : x = []
    · subst hx0
      exact ⟨0, .inr rfl, by simp, by simp [subV]⟩
    · have : x.length ≠ 0 := fun h => hx0 (List.length_eq_zero_iff.1 h)
      refine ⟨log.length, .inl rfl, by omega, ?_⟩
      simp only [subV, Int.toNat_natCast, Option.map_some]
      rw [if_neg (by omega), show log.length + x.length - log.length = x.length by omega]
      simp [Addr.add]
      intro h; simp [h]
  have hfin : lay (lay (List.replicate (log.length + x.length) (T.v (Value.int IntKind.u8 0)).cells).flatten 0 (log.map eb)) o (((x.map eb).take (min (x.map eb).length x.length)).flatMap T.cells) = (log ++ x).map eb := by
    have hz : ((List.replicate (log.length + x.length) (T.v (Value.int IntKind.u8 0)).cells).flatten).length = (log.map eb).length + (x.map eb).length := by simp [len_flat, T.cells, Value.cells]
    rw [List.length_map, Nat.min_self, List.take_of_length_le (by simp), eb_cells, List.map_append]
    rcases ho with rfl | rfl
    · have := lay_two _ (log.map eb) (x.map eb) hz
      rwa [List.length_map] at this
    · simp only [List.map_nil, List.append_nil, List.length_nil, Nat.add_zero] at hz ⊢
      rw [lay_whole _ _ hz]
      simp [lay]
  refine s_ (p_sbl (d := T.v (.int .u8 0)) (i := ((log.length : Nat) : Int)) (p := some ⟨b6, 0, none⟩) (n := log.length + x.length) (c := log.length + x.length) (Nat.le_refl _) hsub) ?_
  refine s_ p_mv ?_
  refine e_cp ?_ ?_
  rotate_left
  · rw [lay_length (by simp [len_flat, T.cells, Value.cells])]
    simp [len_flat, T.cells, Value.cells]; omega
  rw [hfin]
  refine zC ?_
  refine lendG 6 (bl (log ++ x)) (G := [_]) (H1 := [_]) ?_ (.refl _) ?_
  · refine OB.lend (l := log ++ x) (Hs := [_]) (.inr ⟨b6, log.length + x.length, by simp, by simp, ?_⟩) (fun _ h => h)
    rw [eb_cells]; rfl
  unfold bl
  have hA : appF ⟨left, odd, decide p, log, synced, snap, room⟩ x = (⟨left1, odd, dead1, log ++ x, synced, snap, room⟩, if decide q then 0 else 20) := by
    unfold appF
    rw [if_neg (by simpa using hp), if_neg hf, hsp]
  rw [hA]
  refine zC ?_
  apply cr
  refine s_ p_mv ?_
  refine s_ p_mv ?_
  refine s_ p_nc ?_
  refine s_ p_fr ?_
  refine e_st ?_
  refine zC ?_
  apply cr
  refine s_ p_mv ?_
  refine s_ p_no ?_
  refine zC ?_
  refine ci ?_ ?_
  · intro hq
    refine zC ?_
    apply cr
    refine s_ p_as ?_
    refine zC ?_
    refine zR ?_
    refine rh kR ⟨?_, ?_⟩ (Le.refl _)
    · simp [hq]; rfl
    · rfl
  · intro hq
    refine zC ?_
    apply cr
    refine s_ p_as ?_
    refine zC ?_
    refine zR ?_
    refine rh kR ⟨?_, ?_⟩ (Le.refl _)
    · simp [Decidable.not_not.1 hq]; rfl
    · rfl
end Go.Proofs.YtjbokbikkcfjjaaGreat
end
section
set_option maxRecDepth 16000
namespace Go.Proofs.YtjbokbikkcfjjaaGreat
open Go.Cap
set_option linter.unusedSimpArgs false
set_option linter.unusedVariables false
attribute [local irreducible] POp SimFrom DrawFrom EOp Sim FnH T.gp
def syncF (d : Dk) : Dk × Int := if d.dead then (d, 20) else if (spendF d).2 then ({ (spendF d).1 with synced := d.log.length }, 0) else ((spendF d).1, 20)
theorem sync_fn (b : Nat) (d : Dk) (hd : DkOk d) : FnH Tryz.prog 168 [pW b] (DkH b d) (fun r H => r = ei (syncF d).2 ∧ H = DkH b (syncF d).1) := by
  have hsf := spend_fn b d hd
  obtain ⟨left1, dead1, done, hsp⟩ := spend_keeps d
  obtain ⟨left, odd, dead, log, synced, snap, room⟩ := d
  obtain ⟨p, ip, rfl⟩ := dead_is dead
  simp only at hsp
  rw [hsp] at hsf
  obtain ⟨q, iq, rfl⟩ := dead_is done
  refine fn_enter Tryz.func168 (by rfl) (by rfl) ?_
  intro S0 w0
  show Sim _ _ [(0, pW b)] [(b, ⟨tD, [ei left, ei odd, .v (.bool (decide p)), .sl false (log.map eb), ei synced, .sl false (snap.map eb), ei room], 7⟩)] _
  by_cases hp : p
  · have hA : syncF ⟨left, odd, decide p, log, synced, snap, room⟩ = (⟨left, odd, decide p, log, synced, snap, room⟩, 20) := by
      unfold syncF
      rw [if_pos (by simpa using hp)]
    rw [hA]
    refine zC ?_
    apply cr
    refine s_ p_as ?_
    refine zC ?_
    apply cr
    refine s_ p_mv ?_
    refine s_ p_nc ?_
    refine s_ p_fr ?_
    refine s_ p_fr ?_
    refine s_ p_lo ?_
    refine s_ p_mv ?_
    refine gF (fun hg => p_mv) ?_
    refine gF (fun hg => p_nc (hx := u_ hg)) ?_
    refine gF (fun hg => p_fr (hx := u_ hg)) ?_
    refine gF (d := .any) (fun hg => absurd hp hg) ?_
    refine gF (d := .v (.bool (decide False))) (fun hg => absurd hp hg) ?_
    refine s_ p_or ?_
    refine zC ?_
    refine ci ?_ ?_
    · intro _
      refine zC ?_
      apply cr
      refine s_ p_as ?_
      refine zC ?_
      refine zR ?_
      exact rh kR ⟨rfl, rfl⟩ (Le.refl _)
    · intro h; exact absurd (.inl hp) h
  · have hA : syncF ⟨left, odd, decide p, log, synced, snap, room⟩ = if decide q then (⟨left1, odd, dead1, log, log.length, snap, room⟩, 0) else (⟨left1, odd, dead1, log, synced, snap, room⟩, 20) := by
      unfold syncF
      rw [if_neg (by simpa using hp), hsp]
    refine zC ?_
    apply cr
    refine s_ p_as ?_
    refine zC ?_
    apply cr
    refine s_ p_mv ?_
    refine s_ p_nc ?_
    refine s_ p_fr ?_
    refine s_ p_fr ?_
    refine s_ p_lo ?_
    refine s_ p_mv ?_
    refine gF (fun hg => p_mv) ?_
    refine gF (fun hg => p_nc (hx := u_ hg)) ?_
    refine gF (fun hg => p_fr (hx := u_ hg)) ?_
    refine gF_cH (Hr := []) hp hsf perm0 (fun r H' ⟨hr1, hr2⟩ => ?_) (ha' := by refine evl_cons (u_ hp) ?_; exact evl_nil)
    subst hr1 hr2
    show SimFrom _ _ _ _ ((12, .v (.bool (decide q))) :: _) [(b, ⟨tD, [ei left1, ei odd, .v (.bool dead1), .sl false (log.map eb), ei synced, .sl false (snap.map eb), ei room], 7⟩)] _
    refine gF (p := p) (fun hg => p_no) ?_
    refine s_ p_or ?_
    refine zC ?_
    refine ci ?_ ?_
    · intro h
      have hq : ¬ q := h.resolve_left hp
      rw [hA, if_neg (by simpa using hq)]
      refine zC ?_
      apply cr
      refine s_ p_as ?_
      refine zC ?_
      refine zR ?_
      exact rh kR ⟨rfl, rfl⟩ (Le.refl _)
    · intro h
      have hq : q := Decidable.not_not.1 fun hn => h (.inr hn)
      rw [hA, if_pos (by simpa using hq)]
      refine zC ?_
      apply cr
      refine s_ p_mv ?_
      refine s_ p_mv ?_
      refine s_ p_nc ?_
      refine s_ p_fr ?_
      refine s_ p_lo ?_
      (first | refine s_ p_ln ?_ | refine s_ p_lr ?_)
      refine s_ p_nc ?_
      refine s_ p_fr ?_
      refine e_st ?_
      refine zC ?_
      apply cr
      refine s_ p_as ?_
      refine zC ?_
      refine zR ?_
      refine rh kR ⟨rfl, ?_⟩ (Le.refl _)
      simp only [List.length_map]; rfl
def cutF (d : Dk) (n : Int) : Dk × Int := if d.dead then (d, 20) else if n < 0 ∨ (d.log.length : Int) < n then (d, 1) else
  (if (spendF d).2 = true ∨ d.odd = 0 then { (spendF d).1 with log := d.log.take n.toNat, synced := n } else (spendF d).1, if (spendF d).2 then 0 else 20)
theorem cut_fn (b : Nat) (d : Dk) (n : Int) (hd : DkOk d) : FnH Tryz.prog 96 [pW b, ei n] (DkH b d) (fun r H => r = ei (cutF d n).2 ∧ H = DkH b (cutF d n).1) := by
  have hu := hd.used
  have hsf := spend_fn b d hd
  obtain ⟨left1, dead1, done, hsp⟩ := spend_keeps d
  obtain ⟨left, odd, dead, log, synced, snap, room⟩ := d
  obtain ⟨p, ip, rfl⟩ := dead_is dead
  simp only at hsp hu
  rw [hsp] at hsf
  obtain ⟨q, iq, rfl⟩ := dead_is done
  refine fn_enter Tryz.func96 (by rfl) (by rfl) ?_
  intro S0 w0
  show Sim _ _ [(0, pW b), (1, ei n)] [(b, ⟨tD, [ei left, ei odd, .v (.bool (decide p)), .sl false (log.map eb), ei synced, .sl false (snap.map eb), ei room], 7⟩)] _
  refine zC ?_
  apply cr
  refine s_ p_as ?_
  refine zC ?_
  apply cr
  refine s_ p_mv ?_
  refine s_ p_nc ?_
  refine s_ p_fr ?_
  refine s_ p_fr ?_
  refine s_ p_lo ?_
  refine s_ p_as ?_
  refine zC ?_
  refine ci ?_ ?_
  · intro hp
    have hA : cutF ⟨left, odd, decide p, log, synced, snap, room⟩ n = (⟨left, odd, decide p, log, synced, snap, room⟩, 20) := by
      unfold cutF
      rw [if_pos (by simpa using hp)]
    rw [hA]
    refine zC ?_
    apply cr
    refine s_ p_as ?_
    refine zC ?_
    refine zR ?_
    exact rh kR ⟨rfl, rfl⟩ (Le.refl _)
  intro hp
  refine zC ?_
  apply cr
  refine s_ p_mv ?_
  refine s_ p_lt ?_
  refine s_ p_mv ?_
  refine gF (fun hg => p_mv) ?_
  refine gF (fun hg => p_mv) ?_
  refine gF (fun hg => p_nc (hx := u_ hg)) ?_
  refine gF (fun hg => p_fr (hx := u_ hg)) ?_
  refine gF (fun hg => p_lo (hx := u_ hg)) ?_
  (first | refine gF (fun hg => p_ln (hx := u_ hg)) ?_ | refine gF (fun hg => p_lr (hx := u_ hg)) ?_)
  refine gF (fun hg => p_gt (hx := u_ hg) (hy := u_ hg)) ?_
  refine s_ p_or ?_
  refine s_ p_as ?_
  refine zC ?_
  refine ci ?_ ?_
  · intro hf
    simp only [List.length_map] at hf
    have hA : cutF ⟨left, odd, decide p, log, synced, snap, room⟩ n = (⟨left, odd, decide p, log, synced, snap, room⟩, 1) := by
      unfold cutF
      rw [if_neg (by simpa using hp), if_pos hf]
    rw [hA]
    refine zC ?_
    apply cr
    refine s_ p_as ?_
    refine zC ?_
    refine zR ?_
    exact rh kR ⟨rfl, rfl⟩ (Le.refl _)
  intro hf
  simp only [List.length_map] at hf
  have hA : cutF ⟨left, odd, decide p, log, synced, snap, room⟩ n = (if q ∨ odd = 0 then ⟨left1, odd, dead1, log.take n.toNat, n, snap, room⟩ else ⟨left1, odd, dead1, log, synced, snap, room⟩, if decide q then 0 else 20) := by
    unfold cutF
    rw [if_neg (by simpa using hp), if_neg hf, hsp]
    simp only [decide_eq_true_eq]
  rw [hA]
  have ho := own_fn (log.take n.toNat) (by rw [List.length_take]; omega)
  refine zC ?_
  apply cr
  refine s_ p_mv ?_
  refine s_ p_nc ?_
  refine s_ p_fr ?_
  refine e_cHA hsf (fun r H' ⟨hr1, hr2⟩ => ?_)
  subst hr1 hr2
  show SimFrom _ _ _ _ ((27, .v (.bool (decide q))) :: _) [(b, ⟨tD, [ei left1, ei odd, .v (.bool dead1), .sl false (log.map eb), ei synced, .sl false (snap.map eb), ei room], 7⟩)] _
  refine s_ p_as ?_
  refine zC ?_
  apply cr
  refine s_ p_mv ?_
  refine s_ p_mv ?_
  refine gF (fun hg => p_mv) ?_
  refine gF (fun hg => p_nc (hx := u_ hg)) ?_
  refine gF (fun hg => p_fr (hx := u_ hg)) ?_
  refine gF (fun hg => p_fr (hx := u_ hg)) ?_
  refine gF (fun hg => p_lo (hx := u_ hg)) ?_
  refine gF (fun hg => p_eq (hx := u_ hg)) ?_
  refine s_ p_or ?_
  refine zC ?_
  refine ci ?_ ?_
  · intro ho2
    rw [if_pos ho2]
    refine zC ?_
    apply cr
    refine s_ p_mv ?_
    refine s_ p_mv ?_
    refine s_ p_mv ?_
    refine s_ p_nc ?_
    refine s_ p_fr ?_
    refine s_ p_lo ?_
    refine s_ p_mv ?_
    refine s_ (p_s0hE (i := n) (xs := log.map eb) (ys := (log.take n.toNat).map eb) (by rw [List.map_take]) (h2 := by simp only [List.length_map]; omega)) ?_
    refine s_ (p_ca (ho)) ?_
    refine s_ p_mv ?_
    refine s_ p_nc ?_
    refine s_ p_fr ?_
    refine e_st ?_
    refine s_ p_nc ?_
    refine s_ p_fr ?_
    refine e_st ?_
    refine zC ?_
    apply cr
    refine s_ p_mv ?_
    refine s_ p_no ?_
    refine zC ?_
    refine ci ?_ ?_
    · intro hq
      refine zC ?_
      apply cr
      refine s_ p_as ?_
      refine zC ?_
      refine zR ?_
      refine rh kR ⟨?_, rfl⟩ (Le.refl _)
      simp [hq]; rfl
    · intro hq
      refine zC ?_
      apply cr
      refine s_ p_as ?_
      refine zC ?_
      refine zR ?_
      refine rh kR ⟨?_, rfl⟩ (Le.refl _)
      simp [Decidable.not_not.1 hq]; rfl
  · intro ho2
    rw [if_neg ho2]
    refine zC ?_
    apply cr
    refine s_ p_mv ?_
    refine s_ p_no ?_
    refine zC ?_
    refine ci ?_ ?_
    · intro hq
      refine zC ?_
      apply cr
      refine s_ p_as ?_
      refine zC ?_
      refine zR ?_
      refine rh kR ⟨?_, rfl⟩ (Le.refl _)
      simp [hq]; rfl
    · intro hq
      exact absurd (.inl (Decidable.not_not.1 hq)) ho2
def swapF (d : Dk) (x : List UInt8) : Dk × Int := if d.dead then (d, 20) else if d.room < x.length then (d, 19) else
  (if (spendF d).2 = true ∨ d.odd = 0 then { (spendF d).1 with snap := x, log := [], synced := 0 } else (spendF d).1, if (spendF d).2 then 0 else 20)
theorem swap_fn (b : Nat) (d : Dk) (x : List UInt8) (hd : DkOk d) (hx : x.length ≤ 1000000000) : FnH Tryz.prog 169 [pW b, bl x] (DkH b d) (fun r H => r = ei (swapF d x).2 ∧ H = DkH b (swapF d x).1) := by
  have hsf := spend_fn b d hd
  obtain ⟨left1, dead1, done, hsp⟩ := spend_keeps d
  obtain ⟨left, odd, dead, log, synced, snap, room⟩ := d
  obtain ⟨p, ip, rfl⟩ := dead_is dead
  simp only at hsp
  rw [hsp] at hsf
  obtain ⟨q, iq, rfl⟩ := dead_is done
  have ho := own_fn x (by omega)
  refine fn_enter Tryz.func169 (by rfl) (by rfl) ?_
  intro S0 w0
  show Sim _ _ [(0, pW b), (1, .sl false (x.map eb))] [(b, ⟨tD, [ei left, ei odd, .v (.bool (decide p)), .sl false (log.map eb), ei synced, .sl false (snap.map eb), ei room], 7⟩)] _
  refine zC ?_
  apply cr
  refine s_ p_as ?_
  refine zC ?_
  apply cr
  refine s_ p_mv ?_
  refine s_ p_nc ?_
  refine s_ p_fr ?_
  refine s_ p_fr ?_
  refine s_ p_lo ?_
  refine s_ p_as ?_
  refine zC ?_
  refine ci ?_ ?_
  · intro hp
    have hA : swapF ⟨left, odd, decide p, log, synced, snap, room⟩ x = (⟨left, odd, decide p, log, synced, snap, room⟩, 20) := by
      unfold swapF
      rw [if_pos (by simpa using hp)]
    rw [hA]
    refine zC ?_
    apply cr
    refine s_ p_as ?_
    refine zC ?_
    refine zR ?_
    exact rh kR ⟨rfl, rfl⟩ (Le.refl _)
  intro hp
  refine zC ?_
  apply cr
  refine s_ p_mv ?_
  (first | refine s_ p_ln ?_ | refine s_ p_lr ?_)
  refine s_ p_mv ?_
  refine s_ p_nc ?_
  refine s_ p_fr ?_
  refine s_ p_lo ?_
  refine s_ p_gt ?_
  refine s_ p_as ?_
  refine zC ?_
  refine ci ?_ ?_
  · intro hf
    simp only [List.length_map] at hf
    have hA : swapF ⟨left, odd, decide p, log, synced, snap, room⟩ x = (⟨left, odd, decide p, log, synced, snap, room⟩, 19) := by
      unfold swapF
      rw [if_neg (by simpa using hp), if_pos hf]
    rw [hA]
    refine zC ?_
    apply cr
    refine s_ p_as ?_
    refine zC ?_
    refine zR ?_
    exact rh kR ⟨rfl, rfl⟩ (Le.refl _)
  intro hf
  simp only [List.length_map] at hf
  have hA : swapF ⟨left, odd, decide p, log, synced, snap, room⟩ x = (if q ∨ odd = 0 then ⟨left1, odd, dead1, [], 0, x, room⟩ else ⟨left1, odd, dead1, log, synced, snap, room⟩, if decide q then 0 else 20) := by
    unfold swapF
    rw [if_neg (by simpa using hp), if_neg hf, hsp]
    simp only [decide_eq_true_eq]
  rw [hA]
  refine zC ?_
  apply cr
  refine s_ p_mv ?_
  refine s_ p_nc ?_
  refine s_ p_fr ?_
  refine e_cHA hsf (fun r H' ⟨hr1, hr2⟩ => ?_)
  subst hr1 hr2
  show SimFrom _ _ _ _ ((23, .v (.bool (decide q))) :: _) [(b, ⟨tD, [ei left1, ei odd, .v (.bool dead1), .sl false (log.map eb), ei synced, .sl false (snap.map eb), ei room], 7⟩)] _
  refine s_ p_as ?_
  refine zC ?_
  apply cr
  refine s_ p_mv ?_
  refine s_ p_mv ?_
  refine gF (fun hg => p_mv) ?_
  refine gF (fun hg => p_nc (hx := u_ hg)) ?_
  refine gF (fun hg => p_fr (hx := u_ hg)) ?_
  refine gF (fun hg => p_fr (hx := u_ hg)) ?_
  refine gF (fun hg => p_lo (hx := u_ hg)) ?_
  refine gF (fun hg => p_eq (hx := u_ hg)) ?_
  refine s_ p_or ?_
  refine zC ?_
  refine ci ?_ ?_
  · intro ho2
    rw [if_pos ho2]
    refine zC ?_
    apply cr
    refine s_ p_mv ?_
    refine s_ p_mv ?_
    refine s_ p_mv ?_
    refine s_ p_mv ?_
    refine s_ (p_ca (ho)) ?_
    refine s_ p_nc ?_
    refine s_ p_fr ?_
    refine e_st ?_
    refine s_ p_nc ?_
    refine s_ p_fr ?_
    refine e_st ?_
    refine s_ p_nc ?_
    refine s_ p_fr ?_
    refine e_st ?_
    refine zC ?_
    apply cr
    refine s_ p_mv ?_
    refine s_ p_no ?_
    refine zC ?_
    refine ci ?_ ?_
    · intro hq
      refine zC ?_
      apply cr
      refine s_ p_as ?_
      refine zC ?_
      refine zR ?_
      refine rh (H' := DkH b ⟨left1, odd, dead1, [], 0, x, room⟩) (kK kR) ⟨?_, rfl⟩ (Le.refl _)
      simp [hq]; rfl
    · intro hq
      refine zC ?_
      apply cr
      refine s_ p_as ?_
      refine zC ?_
      refine zR ?_
      refine rh (H' := DkH b ⟨left1, odd, dead1, [], 0, x, room⟩) (kK kR) ⟨?_, rfl⟩ (Le.refl _)
      simp [Decidable.not_not.1 hq]; rfl
  · intro ho2
    rw [if_neg ho2]
    refine zC ?_
    apply cr
    refine s_ p_mv ?_
    refine s_ p_no ?_
    refine zC ?_
    refine ci ?_ ?_
    · intro hq
      refine zC ?_
      apply cr
      refine s_ p_as ?_
      refine zC ?_
      refine zR ?_
      refine rh kR ⟨?_, rfl⟩ (Le.refl _)
      simp [hq]; rfl
    · intro hq
      exact absurd (.inl (Decidable.not_not.1 hq)) ho2
theorem newD_fn (n : Int) (h0 : 1 ≤ n) (h1 : n ≤ 16777216) : FnH Tryz.prog 26 [ei n] [] (fun r H => ∃ b, r = .tup [pW b, ei 0] ∧ H = DkH b ⟨0, 0, false, [], 0, [], n⟩) := by
  refine fn_enter Tryz.func26 (by rfl) (by rfl) ?_
  intro S0 w0
  show Sim _ _ [(0, ei n)] _ _
  refine zC ?_
  apply cr
  refine s_ p_as ?_
  refine s_ p_as ?_
  refine zC ?_
  apply cr
  refine s_ p_mv ?_
  refine s_ p_lt ?_
  refine s_ p_mv ?_
  refine gF (fun hg => p_mv) ?_
  refine gF (fun hg => p_gt (hx := u_ hg)) ?_
  refine s_ p_or ?_
  refine zC ?_
  refine ci ?_ ?_
  · intro h; exact absurd h (by omega)
  intro _
  refine zC ?_
  apply cr
  refine s_ p_mv ?_
  refine s_ (p_bd 7 [_, _, _, _, _, _, _]) ?_
  refine e_bx fun b12 _ => ?_
  refine s_ p_as ?_
  refine s_ p_as ?_
  refine zC ?_
  refine zR ?_
  exact rh (H' := DkH b12 ⟨0, 0, false, [], 0, [], n⟩) (kK kR) ⟨_, rfl, rfl⟩ (Le.refl _)
theorem dead_fn (b : Nat) (d : Dk) : FnH Tryz.prog 74 [pW b] (DkH b d) (fun r H => r = eB d.dead ∧ H = DkH b d) := by
  refine fn_enter Tryz.func74 (by rfl) (by rfl) ?_
  intro S0 w0
  show Sim _ _ [(0, pW b)] (DkH b d) _
  unfold DkH dkC
  refine zC ?_
  apply cr
  refine s_ p_as ?_
  refine zC ?_
  apply cr
  refine s_ p_mv ?_
  refine s_ p_nc ?_
  refine s_ p_fr ?_
  refine s_ p_lo ?_
  refine s_ p_as ?_
  refine zC ?_
  refine zR ?_
  exact rh kR ⟨rfl, rfl⟩ (Le.refl _)
theorem dlog_fn (b : Nat) (d : Dk) (hd : DkOk d) : FnH Tryz.prog 94 [pW b] (DkH b d) (fun r H => r = bl d.log ∧ H = DkH b d) := by
  have hu := hd.used
  have ho := own_fn d.log (by omega)
  refine fn_enter Tryz.func94 (by rfl) (by rfl) ?_
  intro S0 w0
  show Sim _ _ [(0, pW b)] (DkH b d) _
  unfold DkH dkC
  refine zC ?_
  apply cr
  refine s_ p_as ?_
  refine zC ?_
  apply cr
  refine s_ p_mv ?_
  refine s_ p_nc ?_
  refine s_ p_fr ?_
  refine s_ p_lo ?_
  refine s_ (p_ca (ho)) ?_
  refine s_ p_as ?_
  refine zC ?_
  refine zR ?_
  exact rh kR ⟨rfl, rfl⟩ (Le.refl _)
theorem dsnap_fn (b : Nat) (d : Dk) (hd : DkOk d) : FnH Tryz.prog 92 [pW b] (DkH b d) (fun r H => r = bl d.snap ∧ H = DkH b d) := by
  have hu := hd.used
  have ho := own_fn d.snap (by omega)
  refine fn_enter Tryz.func92 (by rfl) (by rfl) ?_
  intro S0 w0
  show Sim _ _ [(0, pW b)] (DkH b d) _
  unfold DkH dkC
  refine zC ?_
  apply cr
  refine s_ p_as ?_
  refine zC ?_
  apply cr
  refine s_ p_mv ?_
  refine s_ p_nc ?_
  refine s_ p_fr ?_
  refine s_ p_lo ?_
  refine s_ (p_ca (ho)) ?_
  refine s_ p_as ?_
  refine zC ?_
  refine zR ?_
  exact rh kR ⟨rfl, rfl⟩ (Le.refl _)
def stayK (d : Dk) (pick : Int) : Int := let n := (d.log.length : Int) - d.synced + 1; ((pick.tmod n) + n).tmod n
def crashF (d : Dk) (pick : Int) : Dk := { d with left := 0, odd := 0, dead := false, log := d.log.take (d.synced + stayK d pick).toNat, synced := ((d.log.take (d.synced + stayK d pick).toNat).length : Nat) }
theorem stayK_range (d : Dk) (pick : Int) (h0 : 0 ≤ d.synced) (h1 : d.synced ≤ d.log.length) : 0 ≤ stayK d pick ∧ stayK d pick ≤ (d.log.length : Int) - d.synced := by
  unfold stayK
  obtain ⟨n, hn⟩ : ∃ n, n = (d.log.length : Int) - d.synced + 1 := ⟨_, rfl⟩
  rw [← hn]
  have hp : 0 < n := by omega
  have h2 := tmod_fix pick n hp
  have h3 : 0 ≤ pick.tmod n + n := by
    have := Int.emod_nonneg pick (show n ≠ 0 by omega)
    by_cases h : pick.tmod n < 0
    · rw [h2.1 h]; exact this
    · omega
  have h4 := Int.tmod_nonneg n h3
  have h5 := Int.tmod_lt_of_pos (pick.tmod n + n) hp
  show 0 ≤ (pick.tmod n + n).tmod n ∧ (pick.tmod n + n).tmod n ≤ _
  omega
end Go.Proofs.YtjbokbikkcfjjaaGreat
end
section
set_option maxRecDepth 16000
namespace Go.Proofs.YtjbokbikkcfjjaaGreat
open Go.Cap
set_option linter.unusedSimpArgs false
set_option linter.unusedVariables false
attribute [local irreducible] POp SimFrom DrawFrom EOp Sim FnH T.gp
def tJ : TypeId := 157
def JrH (bj bd : Nat) (n : Int) (d : Dk) : Heap := (bj, ⟨tJ, [pW bd, ei n], 2⟩) :: DkH bd d
theorem count_fn (bj bd : Nat) (n : Int) (d : Dk) : FnH Tryz.prog 161 [pW bj] (JrH bj bd n d) (fun r H => r = ei n ∧ H = JrH bj bd n d) := by
  refine fn_enter Tryz.func161 (by rfl) (by rfl) ?_
  intro S0 w0
  show Sim _ _ [(0, pW bj)] (JrH bj bd n d) _
  unfold JrH
  refine zC ?_
  apply cr
  refine s_ p_as ?_
  refine zC ?_
  apply cr
  refine s_ p_mv ?_
  refine s_ p_nc ?_
  refine s_ p_fr ?_
  refine s_ p_lo ?_
  refine s_ p_as ?_
  refine zC ?_
  refine zR ?_
  exact rh kR ⟨rfl, rfl⟩ (Le.refl _)
def jaddF (n : Int) (d : Dk) (x : List UInt8) : Int × Dk × Int :=
  let a := appF d (frmB x)
  if a.2 = 0 then let s := syncF a.1; if s.2 = 0 then (n + 1, s.1, 0) else (n, s.1, s.2) else (n, a.1, a.2)
theorem jadd_fn (bj bd : Nat) (n : Int) (d : Dk) (x : List UInt8) (hd : DkOk d) (hd2 : DkOk (appF d (frmB x)).1) (hx : x.length ≤ 4194304) (h0 : 0 ≤ n) (h1 : n ≤ 1000) :
    FnH Tryz.prog 162 [pW bj, bl x] (JrH bj bd n d) (fun r H => r = ei (jaddF n d x).2.2 ∧ H = JrH bj bd (jaddF n d x).1 (jaddF n d x).2.1) := by
  have hf := frame_fn false x hx
  have hfl := frmB_len x
  have ha := disk_app_fn bd d (frmB x) hd (by omega)
  have hs := sync_fn bd (appF d (frmB x)).1 hd2
  obtain ⟨⟨d1, e1⟩, hap⟩ : ∃ a, appF d (frmB x) = a := ⟨_, rfl⟩
  obtain ⟨⟨d2, e2⟩, hsy⟩ : ∃ a, syncF d1 = a := ⟨_, rfl⟩
  rw [hap] at ha hs
  simp only at ha hs
  rw [hsy] at hs
  simp only at hs
  have hA : jaddF n d x = if e1 = 0 then (if e2 = 0 then (n + 1, d2, 0) else (n, d2, e2)) else (n, d1, e1) := by
    unfold jaddF
    rw [hap]
    simp only
    rw [hsy]
  rw [hA]
  refine fn_enter Tryz.func162 (by rfl) (by rfl) ?_
  intro S0 w0
  show Sim _ _ [(0, pW bj), (1, bl x)] (JrH bj bd n d) _
  unfold JrH
  refine zC ?_
  apply cr
  refine s_ p_as ?_
  refine zC ?_
  apply cr
  refine s_ p_mv ?_
  refine s_ (p_ca (hf)) ?_
  refine s_ p_mv ?_
  refine s_ p_ex ?_
  refine s_ p_ex ?_
  refine s_ p_as ?_
  refine s_ p_as ?_
  refine zC ?_
  refine zC ?_
  apply cr
  refine s_ p_mv ?_
  refine s_ p_eq ?_
  refine zC ?_
  refine ci ?_ ?_
  rotate_left
  · intro h; exact absurd rfl h
  intro _
  refine zC ?_
  apply cr
  refine s_ p_mv ?_
  refine s_ p_nc ?_
  refine s_ p_fr ?_
  refine s_ p_lo ?_
  refine s_ p_mv ?_
  refine e_cH (Hr := [_]) ha (List.perm_append_comm (l₁ := [_])) (fun r H' ⟨hr1, hr2⟩ => ?_)
  subst hr1 hr2
  refine from_perm List.perm_append_comm ?_
  refine s_ p_as ?_
  refine zC ?_
  apply cr
  refine s_ p_mv ?_
  refine s_ p_eq ?_
  refine zC ?_
  refine ci ?_ ?_
  · intro he1
    have he1' : e1 = 0 := he1
    rw [if_pos he1']
    refine zC ?_
    apply cr
    refine s_ p_mv ?_
    refine s_ p_nc ?_
    refine s_ p_fr ?_
    refine s_ p_lo ?_
    refine e_cH (Hr := [_]) hs (List.perm_append_comm (l₁ := [_])) (fun r H' ⟨hr1, hr2⟩ => ?_)
    subst hr1 hr2
    refine from_perm List.perm_append_comm ?_
    refine s_ p_as ?_
    refine zC ?_
    apply cr
    refine s_ p_mv ?_
    refine s_ p_eq ?_
    refine zC ?_
    refine ci ?_ ?_
    · intro he2
      have he2' : e2 = 0 := he2
      rw [if_pos he2']
      subst he2'
      refine zC ?_
      apply cr
      refine s_ p_mv ?_
      refine s_ p_nc ?_
      refine s_ p_fr ?_
      refine s_ p_lo ?_
      refine s_ p_ad ?_
      refine s_ p_nc ?_
      refine s_ p_fr ?_
      refine e_st ?_
      refine zC ?_
      apply cr
      refine s_ p_mv ?_
      refine s_ p_as ?_
      refine zC ?_
      refine zR ?_
      exact rh kR ⟨rfl, rfl⟩ (Le.refl _)
    · intro he2
      have he2' : ¬ e2 = 0 := he2
      rw [if_neg he2']
      refine zC ?_
      apply cr
      refine s_ p_mv ?_
      refine s_ p_as ?_
      refine zC ?_
      refine zR ?_
      exact rh kR ⟨rfl, rfl⟩ (Le.refl _)
  · intro he1
    have he1' : ¬ e1 = 0 := he1
    rw [if_neg he1']
    refine zC ?_
    apply cr
    refine s_ p_mv ?_
    refine s_ p_eq ?_
    refine zC ?_
    refine ci ?_ ?_
    · intro h; exact absurd h he1
    intro _
    refine zC ?_
    apply cr
    refine s_ p_mv ?_
    refine s_ p_as ?_
    refine zC ?_
    refine zR ?_
    exact rh kR ⟨rfl, rfl⟩ (Le.refl _)
def jsnapF (n : Int) (d : Dk) (x : List UInt8) : Int × Dk × Int := let a := swapF d (frmB x); if a.2 = 0 then (0, a.1, 0) else (n, a.1, a.2)
theorem jsnap_fn (bj bd : Nat) (n : Int) (d : Dk) (x : List UInt8) (hd : DkOk d) (hx : x.length ≤ 4194304) :
    FnH Tryz.prog 163 [pW bj, bl x] (JrH bj bd n d) (fun r H => r = ei (jsnapF n d x).2.2 ∧ H = JrH bj bd (jsnapF n d x).1 (jsnapF n d x).2.1) := by
  have hf := frame_fn false x hx
  have hfl := frmB_len x
  have ha := swap_fn bd d (frmB x) hd (by omega)
  obtain ⟨⟨d1, e1⟩, hap⟩ : ∃ a, swapF d (frmB x) = a := ⟨_, rfl⟩
  rw [hap] at ha
  simp only at ha
  have hA : jsnapF n d x = if e1 = 0 then (0, d1, 0) else (n, d1, e1) := by
    unfold jsnapF
    rw [hap]
  rw [hA]
  refine fn_enter Tryz.func163 (by rfl) (by rfl) ?_
  intro S0 w0
  show Sim _ _ [(0, pW bj), (1, bl x)] (JrH bj bd n d) _
  unfold JrH
  refine zC ?_
  apply cr
  refine s_ p_as ?_
  refine zC ?_
  apply cr
  refine s_ p_mv ?_
  refine s_ (p_ca (hf)) ?_
  refine s_ p_mv ?_
  refine s_ p_ex ?_
  refine s_ p_ex ?_
  refine s_ p_as ?_
  refine s_ p_as ?_
  refine zC ?_
  refine zC ?_
  apply cr
  refine s_ p_mv ?_
  refine s_ p_eq ?_
  refine zC ?_
  refine ci ?_ ?_
  rotate_left
  · intro h; exact absurd rfl h
  intro _
  refine zC ?_
  apply cr
  refine s_ p_mv ?_
  refine s_ p_nc ?_
  refine s_ p_fr ?_
  refine s_ p_lo ?_
  refine s_ p_mv ?_
  refine e_cH (Hr := [_]) ha (List.perm_append_comm (l₁ := [_])) (fun r H' ⟨hr1, hr2⟩ => ?_)
  subst hr1 hr2
  refine from_perm List.perm_append_comm ?_
  refine s_ p_as ?_
  refine zC ?_
  apply cr
  refine s_ p_mv ?_
  refine s_ p_eq ?_
  refine zC ?_
  refine ci ?_ ?_
  · intro he1
    have he1' : e1 = 0 := he1
    rw [if_pos he1']
    subst he1'
    refine zC ?_
    apply cr
    refine s_ p_mv ?_
    refine s_ p_nc ?_
    refine s_ p_fr ?_
    refine e_st ?_
    refine zC ?_
    apply cr
    refine s_ p_mv ?_
    refine s_ p_as ?_
    refine zC ?_
    refine zR ?_
    exact rh kR ⟨rfl, rfl⟩ (Le.refl _)
  · intro he1
    have he1' : ¬ e1 = 0 := he1
    rw [if_neg he1']
    refine zC ?_
    apply cr
    refine s_ p_mv ?_
    refine s_ p_as ?_
    refine zC ?_
    refine zR ?_
    exact rh kR ⟨rfl, rfl⟩ (Le.refl _)
end Go.Proofs.YtjbokbikkcfjjaaGreat
end
section
set_option maxRecDepth 16000
namespace Go.Proofs.YtjbokbikkcfjjaaGreat
open Go.Cap
set_option linter.unusedSimpArgs false
set_option linter.unusedVariables false
attribute [local irreducible] POp SimFrom DrawFrom EOp Sim FnH T.gp
attribute [local irreducible] SimD SimFromD
def snapB : Option (List UInt8) → List UInt8
  | none => []
  | some s => frmB s
def openD (d : Dk) (l : List (List UInt8)) (tl : List UInt8) : Dk := if tl = [] then d else { d with log := l.flatMap frmB, synced := (l.flatMap frmB).length }
theorem open1_fn {H : Heap} {b5 : Nat} (v2 v3 v4 : Value) (hm : (b5, (⟨25, [ei 0], 1⟩ : Blk)) ∈ H) : DfH Tryz.prog 91 #[.pointer (some ⟨b5, 0, none⟩), v2, v3, v4] H (fun H' => H' = H) := by
  refine dfH_enter Tryz.func91 (vs := [.pointer (some ⟨b5, 0, none⟩), v2, v3, v4]) (by rfl) (by rfl) (by rfl) ?_
  intro S0 w0
  show Sim _ _ [(0, pW b5), (1, .v v2), (2, .v v3), (3, .v v4)] H _
  refine zC ?_
  apply cr
  refine s_ (p_lo (hi := hm)) ?_
  refine s_ p_ne ?_
  refine zC ?_
  refine ci ?_ ?_
  · intro h; exact absurd rfl h
  intro _
  refine zC ?_
  exact ⟨.inl rfl, _, kR, rfl⟩
theorem spend_up {d : Dk} (hdead : d.dead = false) (hleft : d.left = 0) : spendF d = (d, true) := by
  unfold spendF
  rw [if_neg (by omega), hdead]
  rfl
theorem cut_open {d : Dk} {l : List (List UInt8)} {tl : List UInt8} (hdead : d.dead = false) (hleft : d.left = 0) (hlog : d.log = l.flatMap frmB ++ tl) (htl : tl ≠ []) : cutF d ((l.flatMap frmB).length : Nat) = (openD d l tl, 0) := by
  have ht : d.log.take (((l.flatMap frmB).length : Nat) : Int).toNat = l.flatMap frmB := by rw [hlog, Int.toNat_natCast, List.take_left' rfl]
  have hle : (l.flatMap frmB).length ≤ d.log.length := by rw [hlog, List.length_append]; omega
  unfold cutF openD
  rw [spend_up hdead hleft, hdead, ht, if_neg (by simp), if_neg (by omega), if_neg htl, if_pos (.inl rfl), if_pos rfl]
  simp [hdead]
set_option maxHeartbeats 2000000 in
theorem openJ_fn (bd : Nat) (d : Dk) (so : Option (List UInt8)) (l : List (List UInt8)) (tl : List UInt8) (hd : DkOk d) (hdead : d.dead = false) (hleft : d.left = 0) (hso : d.snap = snapB so) (hsl : ∀ s, so = some s → s.length ≤ 4194304) (hlog : d.log = l.flatMap frmB ++ tl) (hst : Stop tl) (hl : ∀ x ∈ l, x.length ≤ 4194304) :
    FnH Tryz.prog 65 [pW bd] (DkH bd d) (fun r H => ∃ bj, r = .tup [pW bj, bl (so.getD []), tBl l, ei 0] ∧ H = JrH bj bd l.length (openD d l tl)) := by
  have hu := hd.used
  have hde := dead_fn bd d
  rw [hdead] at hde
  have hsn := dsnap_fn bd d hd
  have hlg := dlog_fn bd d hd
  have hsc := scan_fn l tl hst hl (by rw [← hlog]; omega)
  rw [← hlog] at hsc
  have hct := cut_fn bd d ((l.flatMap frmB).length : Nat) hd
  refine fn_enterD Tryz.func65 (by rfl) (by rfl) ?_
  intro S0 w0 hw0
  show SimD _ _ _ [(0, pW bd)] (DkH bd d) _
  refine simD_seq ?_
  refine zC ?_
  apply cr
  refine e_al fun b2 _ => ?_
  refine e_al fun b3 _ => ?_
  refine e_al fun b4 _ => ?_
  refine e_al fun b5 _ => ?_
  refine zC ?_
  refine ⟨rfl, ?_⟩
  refine simD_seq ?_
  refine zC ?_
  apply cr
  refine s_ p_mv ?_
  refine s_ p_nc ?_
  refine s_ p_fr ?_
  refine e_cH (Hr := [_, _, _, _]) hde (List.perm_append_comm (l₁ := [_, _, _, _])) (fun r H' ⟨hr1, hr2⟩ => ?_)
  subst hr1 hr2
  refine zC ?_
  refine ci (p := False) (fun h => h.elim) (fun _ => ?_)
  refine zC ?_
  refine ⟨rfl, ?_⟩
  refine simD_region ?_
  refine d_s p_mf ?_
  refine d_defer [.pointer (some ⟨b5, 0, none⟩), .pointer (some ⟨b2, 0, none⟩), .pointer (some ⟨b3, 0, none⟩), .pointer (some ⟨b4, 0, none⟩)] ?_ rfl rfl (zl)
  refine simD_end hw0 ?_
  refine zC ?_
  apply cr
  refine s_ p_mv ?_
  refine e_cH (Hr := [_, _, _, _]) hsn (.refl _) (fun r H' ⟨hr1, hr2⟩ => ?_)
  subst hr1 hr2
  refine s_ p_as ?_
  refine zC ?_
  apply cr
  refine s_ p_mv ?_
  (first | refine s_ p_ln ?_ | refine s_ p_lr ?_)
  refine s_ p_gt ?_
  refine zC ?_
  refine sim_cut [(0, pW bd), (2, pW b2), (3, pW b3), (4, pW b4), (5, pW b5)] (DkH bd d ++ [(b5, ⟨25, [ei 0], 1⟩), (b4, ⟨117, [.v (.slice none 0 0)], 1⟩), (b3, ⟨34, [bl (so.getD [])], 1⟩), (b2, ⟨91, [.v (.pointer none)], 1⟩)]) ?_ ?_
  · refine ci ?_ ?_
    · intro hpos
      rcases so with _ | s
      · exact absurd hpos (by rw [hso]; simp [snapB])
      have h1 := one_fn s (hsl s rfl)
      have hso' : d.snap = frmB s := hso
      rw [hso']
      refine zC ?_
      apply cr
      refine s_ p_mv ?_
      refine s_ (p_ca (h1)) ?_
      refine s_ p_mv ?_
      refine s_ p_ex ?_
      refine s_ p_ex ?_
      refine e_st ?_
      refine e_st ?_
      refine zC ?_
      apply cr
      refine s_ p_lo ?_
      refine s_ p_ne ?_
      refine zC ?_
      refine ci ?_ ?_
      · intro h; exact absurd rfl h
      intro _
      refine zC ?_
      exact ⟨eL, kR⟩
    · intro hpos
      rcases so with _ | s
      · refine zC ?_
        exact ⟨eL, kH (kK (kK (kK kR)))⟩
      · refine absurd ?_ hpos
        have := frmB_len s
        have hso' : d.snap = frmB s := hso
        rw [hso', List.length_map]; omega
  refine zC ?_
  apply cr
  refine s_ p_mv ?_
  refine e_cH (Hr := [_, _, _, _]) hlg (.refl _) (fun r H' ⟨hr1, hr2⟩ => ?_)
  subst hr1 hr2
  refine s_ p_as ?_
  refine zC ?_
  apply cr
  refine s_ p_mv ?_
  refine s_ (p_ca (hsc)) ?_
  refine s_ p_mv ?_
  refine s_ p_ex ?_
  refine s_ p_ex ?_
  refine e_st ?_
  refine s_ p_as ?_
  refine zC ?_
  apply cr
  refine s_ p_mv ?_
  refine s_ p_mf ?_
  refine s_ p_as ?_
  refine zC ?_
  apply cr
  refine s_ p_mv ?_
  refine s_ p_mv ?_
  (first | refine s_ p_ln ?_ | refine s_ p_lr ?_)
  refine s_ p_lt ?_
  refine zC ?_
  refine sim_cut [(0, pW bd), (2, pW b2), (3, pW b3), (4, pW b4), (5, pW b5)] (DkH bd (openD d l tl) ++ [(b5, ⟨25, [ei 0], 1⟩), (b4, ⟨117, [tBl l], 1⟩), (b3, ⟨34, [bl (so.getD [])], 1⟩), (b2, ⟨91, [.v (.pointer none)], 1⟩)]) ?_ ?_
  · refine ci ?_ ?_
    · intro hlt
      have htl : tl ≠ [] := by
        rintro rfl
        rw [hlog, List.append_nil, List.length_map] at hlt
        omega
      have hcf := cut_open hdead hleft hlog htl
      rw [hcf] at hct
      refine zC ?_
      apply cr
      refine s_ p_mv ?_
      refine s_ p_mv ?_
      refine e_vH (fs := [pW bd]) (args := [ei ((l.flatMap frmB).length : Nat)]) (cs := []) hct (Hr := [_, _, _, _]) (.refl _) (fun r H' ⟨hr1, hr2⟩ => ?_)
      subst hr1 hr2
      refine e_st ?_
      refine zC ?_
      exact ⟨eL, kR⟩
    · intro hge
      have htl : tl = [] := by
        rw [hlog, List.length_map, List.length_append] at hge
        exact List.length_eq_zero_iff.1 (by omega)
      have ho : openD d l tl = d := if_pos htl
      rw [ho]
      refine zC ?_
      exact ⟨eL, kR⟩
  refine zC ?_
  refine ca [0, 1, 2, 3, 5, 6, 7, 4, 8, 9, 10, 11] [4, 8, 9, 10, 11] ?_
  refine a_ (fun _ => p_mv) ?_
  refine a_lo ?_
  (first | refine a_ (fun _ => p_ln) ?_ | refine a_ (fun _ => p_lr) ?_)
  refine a_ (fun _ => p_bd 2 [_, _]) ?_
  refine a_lo ?_
  refine a_lo ?_
  refine a_lo ?_
  refine a_bx fun b47 _ => ⟨zd, ?_⟩
  refine a_st ?_
  refine a_st ?_
  refine a_st ?_
  refine a_st ?_
  apply an
  refine zC ?_
  apply sim_ret
  refine ⟨_, open1_fn _ _ _ (zm), ?_⟩
  rintro H1 rfl
  refine ⟨_, _, JrH b47 bd l.length (openD d l tl), zrs, Le.refl _, ⟨b47, rfl, rfl⟩, HeapFront.le ?_⟩
  refine .keep _ _ _ _ _ ?_ (.keep _ _ _ _ _ (BlkLe.refl _) (.nil _))
  refine blk_le rfl ?_ rfl rfl
  refine LeL.cons (Le.refl _) (LeL.cons (Le.of_eq ?_) LeL.nil)
  rw [List.length_map]
  rfl
end Go.Proofs.YtjbokbikkcfjjaaGreat
end
