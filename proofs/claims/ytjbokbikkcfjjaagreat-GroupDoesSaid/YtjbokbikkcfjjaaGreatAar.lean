/-
  frames: Frame, One, Scan.
-/
import Derived.Test.YtjbokbikkcfjjaaGreatAaq
set_option maxRecDepth 16000
set_option maxHeartbeats 8000000
set_option linter.all false
namespace Go.Proofs.YtjbokbikkcfjjaaGreat
open Go.Cap
attribute [local irreducible] POp Qe AD EOp Sim FnH T.gp
def Qs (x : List UInt8) : List UInt8 := Ul x.length ++ (Ul (MT x) ++ x)
theorem ZL (n : Int) : (Ul n).length = 4 := rfl
theorem Xy (x : List UInt8) : (Qs x).length = 8 + x.length := by simp [Qs, ZL]; omega
theorem MI {x : List UInt8} (hx : x.length ≤ 4194304) (r : List UInt8) : UB (Qs x ++ r) = x.length := by
 unfold Qs
 rw [List.append_assoc]
 exact Vx (by omega) (by omega) _
theorem MJ (x : List UInt8) (r : List UInt8) : UB ((Qs x ++ r).drop 4) = MT x := by
 unfold Qs
 rw [List.append_assoc, List.drop_left' (ZL _), List.append_assoc]
 exact Vx (JW x).1 (JW x).2 _
theorem WM (x r : List UInt8) : (Qs x ++ r).drop 8 = x ++ r := by
 unfold Qs
 rw [List.append_assoc, List.append_assoc, ← List.append_assoc, List.drop_left' (by rw [List.length_append]; rfl)]
theorem MK (f : Bool) (x : List UInt8) (hx : x.length ≤ 4194304) : FnP Tryz.prog 166 [.sl f (x.map eb)] (fun r => r = .tup [bl (Qs x), ei 0]) := by
 have hr := JW x
 obtain ⟨c, hc⟩ : ∃ c : Nat, MT x = (c : Int) := ⟨(MT x).toNat, by omega⟩
 have h1 := EE x.length
 have h2 := DL f x (by omega)
 have h3 := EE c
 rw [← hc] at h3
 have h4 := WU true [(true, Ul x.length), (true, Ul c), (f, x)] (by simp [JD, ZL]; omega) (by simp)
 rw [← hc] at h4
 refine fe Tryz.func166 fun S0 w0 => ?_
 show Sim _ _ [(0, .sl f (x.map eb))] _ _
 refine zC ?_
 refine cr <| s_ Qb <| s_ Qb <| zC ?_
 refine cr <| s_ Qa ?_
 (first | refine s_ QP ?_ | refine s_ QO ?_)
 refine s_ X0 <| zC ?_
 refine ci ?_ ?_
 ·intro h; exact absurd h (by simp only [List.length_map]; omega)
 intro _
 refine zC ?_
 refine cr <| s_ Qa ?_
 (first | refine s_ QP ?_ | refine s_ QO ?_)
 refine s_ Ya ?_
 rw [List.length_map, J0 (a := ((x.length : Nat) : Int)) (by omega) (by omega)]
 refine s_ (QK (h1)) <| s_ Qa <| s_ (QK (h2)) <| s_ (QK (h3)) <| s_ Qa <| s_ Z0 <| s_ (QK (h4)) <| s_ Qb <| s_ Qb <| zC ?_
 refine zE ?_
 exact Le.of_eq (by simp [XJ, JD, bl, Qs]; rfl)
theorem Bh (x : List UInt8) (hx : x.length ≤ 4194304) : FnP Tryz.prog 93 [.sl false ((Qs x).map eb)] (fun r => r = .tup [bl x, ei 0]) := by
 have hlen := Xy x
 have h1 := Za false (Qs x) (by omega)
 have hn := MI hx []
 have hcr := MJ x []
 have hdr := WM x []
 rw [List.append_nil] at hn hcr hdr
 rw [hn] at h1
 rw [List.append_nil] at hdr
 have h2 := DL false x (by omega)
 have h3 := Za false ((Qs x).drop 4) (by rw [List.length_drop]; omega)
 rw [hcr] at h3
 have h4 := Zg false x (by omega)
 refine fe Tryz.func93 fun S0 w0 => ?_
 show Sim _ _ [(0, .sl false ((Qs x).map eb))] _ _
 refine zC ?_
 refine cr <| s_ Qb <| s_ Qb <| zC ?_
 refine cr <| s_ Qa ?_
 (first | refine s_ QP ?_ | refine s_ QO ?_)
 refine s_ QR <| zC ?_
 refine ci ?_ ?_
 ·intro h; exact absurd h (by simp only [List.length_map]; omega)
 intro _
 refine zC ?_
 refine ca [0, 1, 2, 3, 4, 5] [] <| a_ (fun _ => Qa) <| a_ (fun _ => QK (h1)) <| a_ (fun _ => Qa) <| a_ (fun _ => UA (i := 8) (xs := (Qs x).map eb) (ys := x.map eb) (by rw [← hdr, List.map_drop]; rfl)) <| a_ (fun _ => Qb) <| a_ (fun _ => Qb) ?_
 apply an
 refine zC ?_
 refine cr <| s_ Qa <| s_ X0 <| s_ Qb <| zC ?_
 refine ci ?_ ?_
 ·intro h; exact absurd h (by omega)
 intro _
 refine zC ?_
 refine cr <| s_ Qa <| s_ Ya ?_
 rw [YA (a := ((x.length : Nat) : Int)) (by omega) (by omega)]
 refine s_ Qa ?_
 (first | refine s_ QP ?_ | refine s_ QO ?_)
 refine s_ X0 <| s_ Qb <| zC ?_
 refine ci ?_ ?_
 ·intro h; exact absurd h (by simp only [List.length_map]; omega)
 intro _
 refine zC ?_
 refine cr <| s_ Qa <| s_ Ya ?_
 rw [YA (a := ((x.length : Nat) : Int)) (by omega) (by omega)]
 refine s_ Qa ?_
 (first | refine s_ QP ?_ | refine s_ QO ?_)
 refine s_ QR <| s_ Qb <| zC ?_
 refine ci ?_ ?_
 ·intro h; exact absurd h (by simp only [List.length_map]; omega)
 intro _
 refine zC ?_
 refine ca [0, 1, 2, 3, 4, 5, 6] [] <| a_ (fun _ => Qa) <| a_ (fun _ => QK (h2)) <| a_ (fun _ => Qa) <| a_ (fun _ => UA (i := 4) (xs := (Qs x).map eb) (ys := ((Qs x).drop 4).map eb) (by rw [List.map_drop]; rfl)) <| a_ (fun _ => QK (h3)) <| a_ (fun _ => XR) <| a_ (fun _ => Qb) ?_
 apply an
 refine zC ?_
 refine ci ?_ ?_
 ·intro h; exact absurd rfl h
 intro _
 refine zC ?_
 refine cr <| s_ Qa <| s_ (QK (h4)) <| s_ Qb <| s_ Qb <| zC ?_
 refine zE ?_
 exact Le.refl _
def tBl (l : List (List UInt8)) : T := .sl false (l.map bl)
def OBl (l : List (List UInt8)) (v : Value) (Hs : Qc) : Prop := OSl tBB 1 (l.map bl) v Hs
theorem bl1 (l : List (List UInt8)) : ∀ x ∈ l.map bl, x.cells.length = 1 := zk
theorem Ax (l : List (List UInt8)) : ∀ x ∈ l.map bl, x.solid := ZF _ (fun _ => .inl rfl) _
theorem OBl.len {l : List (List UInt8)} {v : Value} {Hs : Qc} (h : OBl l v Hs) : ∃ p c, v = .slice p (l.map bl).length c := OSl.len h
def DW (t : List UInt8) : Prop := t.length < 8 ∨ 4194304 < UB t ∨ (t.length : Int) - 8 < UB t
theorem GO (l : List (List UInt8)) {k : Nat} (hk : k < l.length) : (l.take (k + 1)).flatMap Qs = (l.take k).flatMap Qs ++ Qs l[k] := by
 rw [List.take_succ_eq_append_getElem hk, List.flatMap_append]
 simp
theorem DB (l : List (List UInt8)) (k : Nat) (t : List UInt8) : (l.flatMap Qs ++ t).drop ((l.take k).flatMap Qs).length = (l.drop k).flatMap Qs ++ t := by
 conv => lhs; rw [← List.take_append_drop k l]
 rw [List.flatMap_append, List.append_assoc, List.take_append_drop, List.drop_left' rfl]
theorem Ch (l : List (List UInt8)) (k : Nat) : ((l.take k).flatMap Qs).length ≤ (l.flatMap Qs).length := by
 conv => rhs; rw [← List.take_append_drop k l]
 rw [List.flatMap_append, List.length_append]; omega
theorem IB (l : List (List UInt8)) (tl : List UInt8) (hst : DW tl) (hl : ∀ x ∈ l, x.length ≤ 4194304) (hb : (l.flatMap Qs ++ tl).length ≤ 100000000) : FnP Tryz.prog 95 [.sl false ((l.flatMap Qs ++ tl).map eb)] (fun r => r = .tup [tBl l, ei (l.flatMap Qs).length]) := by
 obtain ⟨B, hB⟩ : ∃ B, B = l.flatMap Qs ++ tl := ⟨_, rfl⟩
 rw [← hB] at hb ⊢
 have hcnt : l.length ≤ 100000000 := by
  have : l.length ≤ (l.flatMap Qs).length := by
   clear hl hB
   induction l with
   | nil => simp
   | cons x l ih => rw [List.flatMap_cons, List.length_append, Xy, List.length_cons]; omega
  rw [hB, List.length_append] at hb
  omega
 refine FnH.give (Φ := fun r H => ∃ v, r = .tup [.v v, ei (l.flatMap Qs).length] ∧ OBl l v H) ?_ (by rintro r H ⟨v, rfl, ho⟩; exact Qu.tup (Qg.cons (OSl.lend ho (fun _ h => h) (bl1 _) (Ax _)) (Qg.cons (Qu.le (Le.refl _)) Qg.nil)))
 refine fe Tryz.func95 fun S0 w0 => ?_
 show Sim _ _ [(0, .sl false (B.map eb))] _ _
 refine zC ?_
 refine cr <| s_ Qb <| s_ Qb <| zC ?_
 apply Qo (σ := Nat × Value × Qc) (ok := fun s => s.1 ≤ l.length ∧ OBl (l.take s.1) s.2.1 s.2.2) (env := fun s => [(2, .v s.2.1), (3, ei ((l.take s.1).flatMap Qs).length), (0, .sl false (B.map eb))]) (heap := fun s => s.2.2) (μ := fun s => l.length + 1 - s.1) (s0 := (0, .slice none 0 0, []))
 ·exact ⟨Nat.zero_le _, Yy⟩
 ·exact eL
 ·exact kR
 rintro ⟨k, v, H⟩ ⟨hk, ho⟩
 simp only at hk ho
 show Sim _ _ [(2, .v v), (3, ei ((l.take k).flatMap Qs).length), (0, .sl false (B.map eb))] H _
 have hsp := DB l k tl
 rw [← hB] at hsp
 have hle := Ch l k
 have hBl : (l.flatMap Qs).length ≤ B.length := by rw [hB, List.length_append]; omega
 obtain ⟨p, c, rfl⟩ := ho.len
 by_cases hkl : k < l.length
 ·obtain ⟨x, hx⟩ : ∃ x, x = l[k] := ⟨_, rfl⟩
  obtain ⟨rest, hrest⟩ : ∃ rest, rest = (l.drop (k + 1)).flatMap Qs ++ tl := ⟨_, rfl⟩
  have htodo : (l.drop k).flatMap Qs ++ tl = Qs x ++ rest := by
   rw [List.drop_eq_getElem_cons hkl, List.flatMap_cons, List.append_assoc, ← hrest, ← hx]
  rw [htodo] at hsp
  have hxl : x.length ≤ 4194304 := hl x (by rw [hx]; exact List.getElem_mem hkl)
  have hfl := Xy x
  have h1 := Za false (Qs x ++ rest) (by rw [List.length_append]; omega)
  rw [MI hxl rest] at h1
  have h2 := DL false x (by omega)
  have h3 := Za false ((Qs x ++ rest).drop 4) (by rw [List.length_drop, List.length_append]; omega)
  rw [MJ x rest] at h3
  have h4 := Zg false x (by omega)
  have hnx := GO l hkl
  rw [← hx] at hnx
  have htot : (Qs x ++ rest).length ≤ 100000000 := by rw [← hsp, List.length_drop]; omega
  refine zC ?_
  refine cr <| s_ Qa <| s_ Qa <| s_ (UA (i := ((((l.take k).flatMap Qs).length : Nat) : Int)) (xs := B.map eb) (ys := (Qs x ++ rest).map eb) (by rw [← hsp, List.map_drop]; rfl)) <| s_ Qb <| zC ?_
  refine cr <| s_ Qa ?_
  (first | refine s_ QP ?_ | refine s_ QO ?_)
  refine s_ QR <| zC ?_
  refine ci ?_ ?_
  ·intro h; exact absurd h (by simp only [List.length_map, List.length_append]; omega)
  intro _
  refine zC ?_
  refine cr <| s_ Qa <| s_ (QK (h1)) <| s_ Qb <| zC ?_
  refine zC ?_
  refine cr <| s_ Qa <| s_ X0 <| s_ Qa <| gF (fun hg => Qa) ?_
  refine gF (fun hg => Ya (hx := u_ hg)) ?_
  refine gF (fun hg => Qa) ?_
  (first | refine gF (fun hg => QP (hx := u_ hg)) ?_ | refine gF (fun hg => QO (hx := u_ hg)) ?_)
  refine gF (fun hg => Y9 (hx := u_ hg)) ?_
  refine gF (fun hg => X0 (hx := u_ hg) (hy := u_ hg)) ?_
  refine s_ YD <| zC ?_
  refine ci ?_ ?_
  ·intro h
   rw [YA (a := ((x.length : Nat) : Int)) (by omega) (by omega)] at h
   exact absurd h (by simp only [List.length_map, List.length_append]; omega)
  intro _
  refine zC ?_
  refine cr <| s_ Qa <| s_ Qa <| s_ Vu ?_
  rw [J0 (a := 8 + ((x.length : Nat) : Int)) (by omega) (by omega)]
  refine s_ (Ba (i := 8) (j := 8 + ((x.length : Nat) : Int)) (xs := (Qs x ++ rest).map eb) (ys := x.map eb) (by
   rw [← List.map_drop, ← List.map_take, show (8 : Int).toNat = 8 from rfl, WM, show (8 + ((x.length : Nat) : Int)).toNat - 8 = x.length by omega, List.take_left' rfl]) (h2 := by simp only [List.length_map, List.length_append]; omega)) ?_
  refine s_ Qb <| zC ?_
  refine zC ?_
  refine ca [0, 1, 2, 3, 4, 5] [] <| a_ (fun _ => Qa) <| a_ (fun _ => QK (h2)) <| a_ (fun _ => Qa) <| a_ (fun _ => UA (i := 4) (xs := (Qs x ++ rest).map eb) (ys := ((Qs x ++ rest).drop 4).map eb) (by rw [List.map_drop]; rfl) (h2 := by simp only [List.length_map, List.length_append]; omega)) <| a_ (fun _ => QK (h3)) <| a_ (fun _ => XR) ?_
  apply an
  refine zC ?_
  refine ci ?_ ?_
  ·intro h; exact absurd rfl h
  intro _
  refine zC ?_
  refine cr <| s_ Qa <| s_ Qa <| s_ (QK (h4)) <| s_ Z0 ?_
  refine Cn (ho := ho) (A := []) (B := []) (ys := [bl x]) (f := true) (bl1 _) (fun v' Hs' ho' => ?_) (hH := by simp)
  obtain ⟨p', c', rfl⟩ := ho'.len
  refine s_ Qb <| zC ?_
  refine cr <| s_ Qa <| s_ Qa <| s_ Ya ?_
  rw [YA (a := ((x.length : Nat) : Int)) (by omega) (by omega)]
  refine s_ Q0 <| s_ Q0 <| s_ Qb <| zC ?_
  refine ⟨(k + 1, .slice p' (List.map bl (List.take k l) ++ [bl x]).length c', Hs'), ⟨by simp only; omega, ?_⟩, (by simp only []; omega), ⟨?_, ?_, eL⟩, by simp only [List.nil_append, List.append_nil]; exact kR⟩
  ·simp only
   rw [List.take_succ_eq_append_getElem hkl, ← hx]
   unfold OBl
   rw [List.map_append]
   exact ho'
  ·apply Qi; (exact zG)
   exact Le.refl _
  ·apply Qi; (exact zG)
   simp only
   rw [hnx, List.length_append, hfl]
   exact Le.of_eq (by simp [ei])
 ·have hke : k = l.length := by omega
  subst hke
  rw [List.drop_length, List.flatMap_nil, List.nil_append] at hsp
  rw [List.take_length] at hsp hle ho
  rw [List.take_length]
  have hbb : B.length = (l.flatMap Qs).length + tl.length := by rw [hB, List.length_append]
  refine zC ?_
  refine cr <| s_ Qa <| s_ Qa <| s_ (UA (i := (((l.flatMap Qs).length : Nat) : Int)) (xs := B.map eb) (ys := tl.map eb) (by rw [← hsp, List.map_drop]; rfl)) <| s_ Qb <| zC ?_
  refine cr <| s_ Qa ?_
  (first | refine s_ QP ?_ | refine s_ QO ?_)
  refine s_ QR <| zC ?_
  refine ci ?_ ?_
  ·intro _
   refine zC ?_
   refine cr <| s_ Qa <| s_ Qa <| s_ Qb <| s_ Qb <| zC ?_
   refine zR ?_
   exact rh kR ⟨_, rfl, ho⟩ (Le.refl _)
  intro h8
  have h8' : 8 ≤ tl.length := by simp only [List.length_map] at h8; omega
  have hr := Dm tl (by omega)
  have h1 := Za false tl (by omega)
  refine zC ?_
  refine cr <| s_ Qa <| s_ (QK (h1)) <| s_ Qb <| zC ?_
  refine zC ?_
  refine cr <| s_ Qa <| s_ X0 <| s_ Qa <| gF (fun hg => Qa) ?_
  refine gF (fun hg => Ya (hx := u_ hg)) ?_
  refine gF (fun hg => Qa) ?_
  (first | refine gF (fun hg => QP (hx := u_ hg)) ?_ | refine gF (fun hg => QO (hx := u_ hg)) ?_)
  refine gF (fun hg => Y9 (hx := u_ hg)) ?_
  refine gF (fun hg => X0 (hx := u_ hg) (hy := u_ hg)) ?_
  refine s_ YD <| zC ?_
  refine ci ?_ ?_
  ·intro _
   refine zC ?_
   refine cr <| s_ Qa <| s_ Qa <| s_ Qb <| s_ Qb <| zC ?_
   refine zR ?_
   exact rh kR ⟨_, rfl, ho⟩ (Le.refl _)
  ·intro h
   refine absurd ?_ h
   rw [YA (by omega) (by omega), List.length_map]
   rcases hst with h | h | h
   ·omega
   ·exact .inl h
   ·exact .inr h
end Go.Proofs.YtjbokbikkcfjjaaGreat
namespace Go.Cap
section
variable {K : Ctx} {t : Env} {H Hs Hr : Qc} {N : Env → Qc → Prop} {ops : Array Oper} {i j kg : Nat} {l : List Oper} {ty ty' tp : TypeId} {pos : String} {aft : Array Edge} {kd : Tmp} {p : Prop} {ip : Decidable p}
theorem CV {dst : Option Tmp} {op : Op} {want b0 : Bool} (hj : (ops[j]?).bind (·.dst) = some kg) (hb : t.get kg = .v (.bool b0)) (hw : b0 = want) (h : EOp K t H ⟨dst, op, tp, pos, aft, some (j, want)⟩ (fun t' H' => Qe K ops (i + 1) l t' H' N)) :
  Qe K ops i (⟨dst, op, tp, pos, aft, some (j, want)⟩ :: l) t H N := by
 intro hl a w Q hr hq
 rw [Jh]
 unfold wpOpIn
 have hv : a.tmps.getD kg undef = .bool b0 := by obtain ⟨S, hr⟩ := hr; have := hr.env kg; rw [hb] at this; exact this.v_eq
 simp only [V1 hl, (Xp (o := ⟨dst, op, tp, pos, aft, some (j, want)⟩) rfl hj hv).1 (by rw [hw]), if_true]
 exact h a w hr _ Q fun t' H' a' w' hn hr' => hn (Uu hl) a' w' Q hr' hq
theorem RJ {f : FuncId} {xs : Array Operand} {ats : Array TypeId} {args : List T} {Φ : T → Qc → Prop} (hp : ¬ p) (hf : FnH K.P f args Hs Φ) (hP : H.Perm (Hs ++ Hr)) (hn : ∀ r H', Φ r H' → Qe K ops (i + 1) l ((kd, r) :: t) (H' ++ Hr) N) (hj : (ops[j]?).bind (·.dst) = some kg := by rfl) (hb : t.get kg = .v (.bool (decide p)) := by exact zG)
  (ha' : EvL t xs.toList args) (hc : Qy K.P f = true := by rfl) (hd : Xi (some kd) K.n = true := by rfl) : Qe K ops i (⟨some kd, .call ⟨.value (.func f), xs, ats⟩, tp, pos, aft, some (j, false)⟩ :: l) t H N :=
 CV hj hb (by simpa using hp) (Yo hf hP hc ha' hd hn)
theorem Ak {x : Operand} {n : Nat} {d : T} {by_ : Nat} {k : IntKind} [hz : QD K.P ty d by_] (h : ∀ b, (∀ c ∈ keys H, ¬ c = b) → Qe K ops (i + 1) l ((kd, .v (.slice (some ⟨b, 0, none⟩) n n)) :: t) ((b, ⟨Xd K.P ty, (List.replicate n d.cells).flatten, n * d.cells.length⟩) :: H) N)
  (hx : t.ev x = .v (.int k n) := by exact zl) (hb : n * by_ ≤ 281474976710656 := by exact zo) (hm : (n : Int) ≤ 9223372036854775807 := by exact zo) (hd : Nat.blt kd K.n = true := by rfl) : Qe K ops i (⟨some kd, .makeSlice ty x x, tp, pos, aft, none⟩ :: l) t H N :=
 Yn (RU hx hx (by omega) (Int.le_refl _) (by rw [Int.toNat_natCast]; exact hb) hm hd (by simpa using h))
theorem Bt {x y : Operand} {b o n c m : Nat} {ty0 : TypeId} {cells : List T} {f : Bool} {xs : List T} {kk : Nat} {H' : Qc} [hs : YU K.P ty kk] (h : Qe K ops (i + 1) l ((kd, .v (.int .i64 (min xs.length n : Nat))) :: t) H' N) (ho : o + min xs.length n * kk ≤ cells.length) (hx : t.ev x = .v (.slice (some ⟨b, o, none⟩) n c) := by exact zl) (hy : t.ev y = .sl f xs := by exact zl)
  (hi : Jd H (b, ⟨ty0, cells, m⟩) (b, ⟨ty0, lay cells o ((xs.take (min xs.length n)).flatMap T.cells), m⟩) H' := by exact zr) (hp : Nat.blt 0 kk = true := by rfl) (hk : ∀ x ∈ xs, x.cells.length = kk := by exact zk) (hl : ∀ x ∈ xs, QB x.cells = true := by exact zf) (hd : Nat.blt kd K.n = true := by rfl) :
  Qe K ops i (⟨some kd, .call ⟨.builtin .copy, #[x, y], #[ty, ty']⟩, tp, pos, aft, none⟩ :: l) t H N := Yn (GW hx hy hi hp hk hl ho hd h)
end
end Go.Cap
namespace Go.Proofs.YtjbokbikkcfjjaaGreat
open Go.Cap
attribute [local irreducible] POp Qe AD EOp Sim FnH T.gp
theorem Ur (l : List UInt8) : (l.map eb).flatMap T.cells = l.map eb := GS eb (fun _ => rfl) l
theorem I5 (Z A B : List T) (h : Z.length = A.length + B.length) : lay (lay Z 0 A) A.length B = A ++ B := by
 unfold lay
 simp only [List.take_zero, List.nil_append, Nat.zero_add]
 rw [List.take_left' rfl, List.drop_of_length_le (l := A ++ Z.drop A.length) (by simp; omega), List.append_nil]
theorem Lq (l : List UInt8) (hl : l.length ≤ 1000000000000) : FnP Tryz.prog 73 [bl l] (fun r => r = bl l) := by
 refine FnH.give (Φ := fun r H => ∃ v, r = .v v ∧ OB l v H) ?_ (by rintro r H ⟨v, rfl, ho⟩; exact ho.lend fun _ h => h)
 refine fe Tryz.func73 fun S0 w0 => ?_
 show Sim _ _ [(0, .sl false (l.map eb))] _ _
 refine zC ?_
 refine cr <| s_ Qb <| zC ?_
 refine cr <| s_ Qa ?_
 (first | refine s_ QP ?_ | refine s_ QO ?_)
 refine Ak (fun b6 _ => ?_)
 refine s_ Qb <| zC ?_
 refine cr <| s_ Qa <| s_ Qa ?_
 refine Bt ?_ ?_
 rotate_left
 ·simp [Zd, T.cells, Value.cells]
 refine zC ?_
 refine cr <| s_ Qa <| s_ Qb <| zC ?_
 refine zR ?_
 refine rh kR ⟨_, rfl, .inr ⟨b6, (l.map eb).length, rfl, Nat.le_refl _, ?_⟩⟩ (Le.refl _)
 rw [Nat.min_self, List.take_length, Ur, WE _ _ (by rw [Zd]; simp [T.cells, Value.cells])]
 rfl
structure Dk where
 left : Int
 odd : Int
 dead : Bool
 log : List UInt8
 synced : Int
 snap : List UInt8
 room : Int
def tD : TypeId := 89
def dkC (d : Dk) : List T := [ei d.left, ei d.odd, eB d.dead, bl d.log, ei d.synced, bl d.snap, ei d.room]
def DkH (b : Nat) (d : Dk) : Qc := [(b, ⟨tD, dkC d, 7⟩)]
structure UI (d : Dk) : Prop where
 l0 : 0 ≤ d.left
 l1 : d.left ≤ 1000000000
 r0 : 0 ≤ d.room
 r1 : d.room ≤ 16777216
 used : ((d.log.length + d.snap.length : Nat) : Int) ≤ 100000000
theorem YS (b : Bool) : ∃ (p : Prop) (ip : Decidable p), b = @decide p ip := ⟨b = true, inferInstance, by simp⟩
def QT (d : Dk) : Dk × Bool := if 0 < d.left then ({ d with left := d.left - 1, dead := decide (d.left - 1 = 0) }, !decide (d.left - 1 = 0)) else (d, !d.dead)
theorem J4 (b : Nat) (d : Dk) (hd : UI d) : FnH Tryz.prog 128 [pW b] (DkH b d) (fun r H => r = eB (QT d).2 ∧ H = DkH b (QT d).1) := by
 have h1 := hd.l1
 obtain ⟨left, odd, dead, log, synced, snap, room⟩ := d
 obtain ⟨p, ip, rfl⟩ := YS dead
 simp only at h1
 refine fe Tryz.func128 fun S0 w0 => ?_
 show Sim _ _ [(0, pW b)] (DkH b _) _
 unfold DkH dkC eB
 refine zC ?_
 refine cr <| s_ Qb <| zC ?_
 refine cr <| s_ Qa <| s_ Qf <| s_ Qd <| s_ Ql <| s_ X0 <| zC ?_
 refine ci ?_ ?_
 ·intro hlt
  have hlt' : 0 < left := hlt
  refine zC ?_
  refine cr <| s_ Qa <| s_ Qf <| s_ Qd <| s_ Ql <| s_ Y9 <| s_ Qf <| s_ Qd <| Qw ?_
  refine zC ?_
  refine cr <| s_ Qa <| s_ Qa <| s_ Qf <| s_ Qd <| s_ Ql <| s_ XB <| s_ Qf <| s_ Qd <| Qw ?_
  refine zC ?_
  refine cr <| s_ Qa <| s_ Qf <| s_ Qd <| s_ Ql <| s_ YE <| s_ Qb <| zC ?_
  refine zR ?_
  refine rh kR (d := eB (!decide (left - 1 = 0))) ?_ ?_
  ·simp only [QT, if_pos hlt']
   exact ⟨rfl, rfl⟩
  ·exact Le.of_eq (by simp [XJ, eB])
 ·intro hlt
  have hlt' : ¬ 0 < left := hlt
  refine zC ?_
  refine cr <| s_ Qa <| s_ Qf <| s_ Qd <| s_ Ql <| s_ YE <| s_ Qb <| zC ?_
  refine zR ?_
  refine rh kR (d := eB (!decide p)) ?_ ?_
  ·simp only [QT, if_neg hlt']
   exact ⟨rfl, trivial⟩
  ·exact Le.of_eq (by simp [XJ, eB])
theorem Zp (d : Dk) : ∃ left dead done, QT d = (⟨left, d.odd, dead, d.log, d.synced, d.snap, d.room⟩, done) := by
 unfold QT
 split
 ·exact ⟨_, _, _, rfl⟩
 ·exact ⟨_, _, _, rfl⟩
def JY (d : Dk) (x : List UInt8) : Dk × Int := if d.dead then (d, 20) else if d.room - d.log.length - d.snap.length < x.length then (d, 19) else
 ({ (QT d).1 with log := d.log ++ x }, if (QT d).2 then 0 else 20)
theorem MP (b : Nat) (d : Dk) (x : List UInt8) (hd : UI d) (hx : x.length ≤ 1000000000) : FnH Tryz.prog 167 [pW b, bl x] (DkH b d) (fun r H => r = ei (JY d x).2 ∧ H = DkH b (JY d x).1) := by
 have hr0 := hd.r0
 have hr1 := hd.r1
 have hu := hd.used
 have hsf := J4 b d hd
 obtain ⟨left1, dead1, done, hsp⟩ := Zp d
 obtain ⟨left, odd, dead, log, synced, snap, room⟩ := d
 obtain ⟨p, ip, rfl⟩ := YS dead
 simp only at hr0 hr1 hu hsp
 rw [hsp] at hsf
 obtain ⟨q, iq, rfl⟩ := YS done
 refine fe Tryz.func167 fun S0 w0 => ?_
 show Sim _ _ [(0, pW b), (1, .sl false (x.map eb))] [(b, ⟨tD, [ei left, ei odd, .v (.bool (decide p)), .sl false (log.map eb), ei synced, .sl false (snap.map eb), ei room], 7⟩)] _
 refine zC ?_
 refine cr <| s_ Qb <| zC ?_
 refine cr <| s_ Qa <| s_ Qf <| s_ Qd <| s_ Qd <| s_ Ql <| s_ Qb <| zC ?_
 refine ci ?_ ?_
 ·intro hp
  refine zC ?_
  refine cr <| s_ Qb <| zC ?_
  refine zR ?_
  refine rh kR ⟨?_, ?_⟩ (Le.refl _)
  ·simp [JY, hp]; rfl
  ·simp [JY, hp]; rfl
 intro hp
 refine zC ?_
 refine ca [0, 1, 2, 3, 4, 5, 6, 7, 8, 9, 10, 11, 12, 13, 14, 15, 16, 17, 18, 19] [] <| a_ (fun _ => Qa) ?_
 (first | refine a_ (fun _ => QP) ?_ | refine a_ (fun _ => QO) ?_)
 refine a_ (fun _ => Qa) <| a_ (fun _ => Qf) <| a_ (fun _ => Qd) <| QF ?_
 refine a_ (fun _ => Qa) <| a_ (fun _ => Qf) <| a_ (fun _ => Qd) <| QF ?_
 (first | refine a_ (fun _ => QP) ?_ | refine a_ (fun _ => QO) ?_)
 refine a_ (fun _ => Y9) <| a_ (fun _ => Qa) <| a_ (fun _ => Qf) <| a_ (fun _ => Qd) <| QF ?_
 (first | refine a_ (fun _ => QP) ?_ | refine a_ (fun _ => QO) ?_)
 refine a_ (fun _ => Y9) <| a_ (fun _ => X0) <| a_ (fun _ => Qb) ?_
 apply an
 refine zC ?_
 refine ci ?_ ?_
 ·intro hf
  simp only [List.length_map] at hf
  refine zC ?_
  refine cr <| s_ Qb <| zC ?_
  refine zR ?_
  refine rh kR ⟨?_, ?_⟩ (Le.refl _)
  ·simp [JY, hp, hf]; rfl
  ·simp [JY, hp, hf]; rfl
 intro hf
 simp only [List.length_map] at hf
 refine zC ?_
 refine cr <| s_ Qa <| s_ Qf <| s_ Qd ?_
 refine QJ hsf (fun r H' ⟨hr1, hr2⟩ => ?_)
 subst hr1 hr2
 show Qe _ _ _ _ ((36, .v (.bool (decide q))) :: _) [(b, ⟨tD, [ei left1, ei odd, .v (.bool dead1), .sl false (log.map eb), ei synced, .sl false (snap.map eb), ei room], 7⟩)] _
 refine s_ Qb <| zC ?_
 refine cr <| s_ Qa <| s_ Qf <| s_ Qd <| s_ Ql ?_
 (first | refine s_ QP ?_ | refine s_ QO ?_)
 refine s_ Qa ?_
 (first | refine s_ QP ?_ | refine s_ QO ?_)
 refine s_ Q0 ?_
 have hcast : (((log.map eb).length : Nat) : Int) + (((x.map eb).length : Nat) : Int) = ((log.length + x.length : Nat) : Int) := by simp
 rw [hcast]
 refine Ak (fun b6 _ => ?_)
 refine s_ Qb <| zC ?_
 refine cr <| s_ Qa <| s_ Qa <| s_ Qa <| s_ Qf <| s_ Qd <| s_ Ql ?_
 refine Bt ?_ ?_
 rotate_left
 ·simp [Zd, T.cells, Value.cells]
 have hmin : min (log.map eb).length (log.length + x.length) = log.length := by simp
 rw [hmin, show ((log.map eb).take log.length).flatMap T.cells = log.map eb by rw [List.take_of_length_le (by simp), Ur]]
 obtain ⟨o, ho, hol, hsub⟩ : ∃ o, (o = log.length ∨ x = []) ∧ o + x.length ≤ log.length + x.length ∧ JB 1 (some ⟨b6, 0, none⟩) (log.length + x.length) ((log.length : Nat) : Int).toNat (log.length + x.length - ((log.length : Nat) : Int).toNat) = .slice (some ⟨b6, o, none⟩) x.length x.length := by
  by_cases hx0 : x = []
  ·subst hx0
   exact ⟨0, .inr rfl, by simp, by simp [JB]⟩
  ·have : x.length ≠ 0 := fun h => hx0 (List.length_eq_zero_iff.1 h)
   refine ⟨log.length, .inl rfl, by omega, ?_⟩
   simp only [JB, Int.toNat_natCast, Option.map_some]
   rw [if_neg (by omega), show log.length + x.length - log.length = x.length by omega]
   simp [Addr.add]
   intro h; simp [h]
 have hfin : lay (lay (List.replicate (log.length + x.length) (T.v (Value.int IntKind.u8 0)).cells).flatten 0 (log.map eb)) o (((x.map eb).take (min (x.map eb).length x.length)).flatMap T.cells) = (log ++ x).map eb := by
  have hz : ((List.replicate (log.length + x.length) (T.v (Value.int IntKind.u8 0)).cells).flatten).length = (log.map eb).length + (x.map eb).length := by simp [Zd, T.cells, Value.cells]
  rw [List.length_map, Nat.min_self, List.take_of_length_le (by simp), Ur, List.map_append]
  rcases ho with rfl | rfl
  ·have := I5 _ (log.map eb) (x.map eb) hz
   rwa [List.length_map] at this
  ·simp only [List.map_nil, List.append_nil, List.length_nil, Nat.add_zero] at hz ⊢
   rw [WE _ _ hz]
   simp [lay]
 refine s_ (O2 (d := T.v (.int .u8 0)) (i := ((log.length : Nat) : Int)) (p := some ⟨b6, 0, none⟩) (n := log.length + x.length) (c := log.length + x.length) (Nat.le_refl _) hsub) <| s_ Qa ?_
 refine Bt ?_ ?_
 rotate_left
 ·rw [JQ (by simp [Zd, T.cells, Value.cells])]
  simp [Zd, T.cells, Value.cells]; omega
 rw [hfin]
 refine zC ?_
 refine B8 6 (bl (log ++ x)) (G := [_]) (H1 := [_]) ?_ (.refl _) ?_
 ·refine OB.lend (l := log ++ x) (Hs := [_]) (.inr ⟨b6, log.length + x.length, by simp, by simp, ?_⟩) (fun _ h => h)
  rw [Ur]; rfl
 unfold bl
 have hA : JY ⟨left, odd, decide p, log, synced, snap, room⟩ x = (⟨left1, odd, dead1, log ++ x, synced, snap, room⟩, if decide q then 0 else 20) := by
  unfold JY
  rw [if_neg (by simpa using hp), if_neg hf, hsp]
 rw [hA]
 refine zC ?_
 refine cr <| s_ Qa <| s_ Qa <| s_ Qf <| s_ Qd <| Qw ?_
 refine zC ?_
 refine cr <| s_ Qa <| s_ YE <| zC ?_
 refine ci ?_ ?_
 ·intro hq
  refine zC ?_
  refine cr <| s_ Qb <| zC ?_
  refine zR ?_
  refine rh kR ⟨?_, ?_⟩ (Le.refl _)
  ·simp [hq]; rfl
  ·rfl
 ·intro hq
  refine zC ?_
  refine cr <| s_ Qb <| zC ?_
  refine zR ?_
  refine rh kR ⟨?_, ?_⟩ (Le.refl _)
  ·simp [Decidable.not_not.1 hq]; rfl
  ·rfl
def Z8 (d : Dk) : Dk × Int := if d.dead then (d, 20) else if (QT d).2 then ({ (QT d).1 with synced := d.log.length }, 0) else ((QT d).1, 20)
theorem It (b : Nat) (d : Dk) (hd : UI d) : FnH Tryz.prog 168 [pW b] (DkH b d) (fun r H => r = ei (Z8 d).2 ∧ H = DkH b (Z8 d).1) := by
 have hsf := J4 b d hd
 obtain ⟨left1, dead1, done, hsp⟩ := Zp d
 obtain ⟨left, odd, dead, log, synced, snap, room⟩ := d
 obtain ⟨p, ip, rfl⟩ := YS dead
 simp only at hsp
 rw [hsp] at hsf
 obtain ⟨q, iq, rfl⟩ := YS done
 refine fe Tryz.func168 fun S0 w0 => ?_
 show Sim _ _ [(0, pW b)] [(b, ⟨tD, [ei left, ei odd, .v (.bool (decide p)), .sl false (log.map eb), ei synced, .sl false (snap.map eb), ei room], 7⟩)] _
 by_cases hp : p
 ·have hA : Z8 ⟨left, odd, decide p, log, synced, snap, room⟩ = (⟨left, odd, decide p, log, synced, snap, room⟩, 20) := by
   unfold Z8
   rw [if_pos (by simpa using hp)]
  rw [hA]
  refine zC ?_
  refine cr <| s_ Qb <| zC ?_
  refine cr <| s_ Qa <| s_ Qf <| s_ Qd <| s_ Qd <| s_ Ql <| s_ Qa <| gF (fun hg => Qa) ?_
  refine gF (fun hg => Qf (hx := u_ hg)) ?_
  refine gF (fun hg => Qd (hx := u_ hg)) ?_
  refine gF (d := .any) (fun hg => absurd hp hg) ?_
  refine gF (d := .v (.bool (decide False))) (fun hg => absurd hp hg) ?_
  refine s_ YD <| zC ?_
  refine ci ?_ ?_
  ·intro _
   refine zC ?_
   refine cr <| s_ Qb <| zC ?_
   refine zR ?_
   exact rh kR ⟨rfl, rfl⟩ (Le.refl _)
  ·intro h; exact absurd (.inl hp) h
 ·have hA : Z8 ⟨left, odd, decide p, log, synced, snap, room⟩ = if decide q then (⟨left1, odd, dead1, log, log.length, snap, room⟩, 0) else (⟨left1, odd, dead1, log, synced, snap, room⟩, 20) := by
   unfold Z8
   rw [if_neg (by simpa using hp), hsp]
  refine zC ?_
  refine cr <| s_ Qb <| zC ?_
  refine cr <| s_ Qa <| s_ Qf <| s_ Qd <| s_ Qd <| s_ Ql <| s_ Qa <| gF (fun hg => Qa) ?_
  refine gF (fun hg => Qf (hx := u_ hg)) ?_
  refine gF (fun hg => Qd (hx := u_ hg)) ?_
  refine RJ (Hr := []) hp hsf UT (fun r H' ⟨hr1, hr2⟩ => ?_) (ha' := by refine QQ (u_ hp) ?_; exact XS)
  subst hr1 hr2
  show Qe _ _ _ _ ((12, .v (.bool (decide q))) :: _) [(b, ⟨tD, [ei left1, ei odd, .v (.bool dead1), .sl false (log.map eb), ei synced, .sl false (snap.map eb), ei room], 7⟩)] _
  refine gF (p := p) (fun hg => YE) ?_
  refine s_ YD <| zC ?_
  refine ci ?_ ?_
  ·intro h
   have hq : ¬ q := h.resolve_left hp
   rw [hA, if_neg (by simpa using hq)]
   refine zC ?_
   refine cr <| s_ Qb <| zC ?_
   refine zR ?_
   exact rh kR ⟨rfl, rfl⟩ (Le.refl _)
  ·intro h
   have hq : q := Decidable.not_not.1 fun hn => h (.inr hn)
   rw [hA, if_pos (by simpa using hq)]
   refine zC ?_
   refine cr <| s_ Qa <| s_ Qa <| s_ Qf <| s_ Qd <| s_ Ql ?_
   (first | refine s_ QP ?_ | refine s_ QO ?_)
   refine s_ Qf <| s_ Qd <| Qw ?_
   refine zC ?_
   refine cr <| s_ Qb <| zC ?_
   refine zR ?_
   refine rh kR ⟨rfl, ?_⟩ (Le.refl _)
   simp only [List.length_map]; rfl
def Wk (d : Dk) (n : Int) : Dk × Int := if d.dead then (d, 20) else if n < 0 ∨ (d.log.length : Int) < n then (d, 1) else
 (if (QT d).2 = true ∨ d.odd = 0 then { (QT d).1 with log := d.log.take n.toNat, synced := n } else (QT d).1, if (QT d).2 then 0 else 20)
theorem Bw (b : Nat) (d : Dk) (n : Int) (hd : UI d) : FnH Tryz.prog 96 [pW b, ei n] (DkH b d) (fun r H => r = ei (Wk d n).2 ∧ H = DkH b (Wk d n).1) := by
 have hu := hd.used
 have hsf := J4 b d hd
 obtain ⟨left1, dead1, done, hsp⟩ := Zp d
 obtain ⟨left, odd, dead, log, synced, snap, room⟩ := d
 obtain ⟨p, ip, rfl⟩ := YS dead
 simp only at hsp hu
 rw [hsp] at hsf
 obtain ⟨q, iq, rfl⟩ := YS done
 refine fe Tryz.func96 fun S0 w0 => ?_
 show Sim _ _ [(0, pW b), (1, ei n)] [(b, ⟨tD, [ei left, ei odd, .v (.bool (decide p)), .sl false (log.map eb), ei synced, .sl false (snap.map eb), ei room], 7⟩)] _
 refine zC ?_
 refine cr <| s_ Qb <| zC ?_
 refine cr <| s_ Qa <| s_ Qf <| s_ Qd <| s_ Qd <| s_ Ql <| s_ Qb <| zC ?_
 refine ci ?_ ?_
 ·intro hp
  have hA : Wk ⟨left, odd, decide p, log, synced, snap, room⟩ n = (⟨left, odd, decide p, log, synced, snap, room⟩, 20) := by
   unfold Wk
   rw [if_pos (by simpa using hp)]
  rw [hA]
  refine zC ?_
  refine cr <| s_ Qb <| zC ?_
  refine zR ?_
  exact rh kR ⟨rfl, rfl⟩ (Le.refl _)
 intro hp
 refine zC ?_
 refine cr <| s_ Qa <| s_ QR <| s_ Qa <| gF (fun hg => Qa) ?_
 refine gF (fun hg => Qa) ?_
 refine gF (fun hg => Qf (hx := u_ hg)) ?_
 refine gF (fun hg => Qd (hx := u_ hg)) ?_
 refine gF (fun hg => Ql (hx := u_ hg)) ?_
 (first | refine gF (fun hg => QP (hx := u_ hg)) ?_ | refine gF (fun hg => QO (hx := u_ hg)) ?_)
 refine gF (fun hg => X0 (hx := u_ hg) (hy := u_ hg)) ?_
 refine s_ YD <| s_ Qb <| zC ?_
 refine ci ?_ ?_
 ·intro hf
  simp only [List.length_map] at hf
  have hA : Wk ⟨left, odd, decide p, log, synced, snap, room⟩ n = (⟨left, odd, decide p, log, synced, snap, room⟩, 1) := by
   unfold Wk
   rw [if_neg (by simpa using hp), if_pos hf]
  rw [hA]
  refine zC ?_
  refine cr <| s_ Qb <| zC ?_
  refine zR ?_
  exact rh kR ⟨rfl, rfl⟩ (Le.refl _)
 intro hf
 simp only [List.length_map] at hf
 have hA : Wk ⟨left, odd, decide p, log, synced, snap, room⟩ n = (if q ∨ odd = 0 then ⟨left1, odd, dead1, log.take n.toNat, n, snap, room⟩ else ⟨left1, odd, dead1, log, synced, snap, room⟩, if decide q then 0 else 20) := by
  unfold Wk
  rw [if_neg (by simpa using hp), if_neg hf, hsp]
  simp only [decide_eq_true_eq]
 rw [hA]
 have ho := Lq (log.take n.toNat) (by rw [List.length_take]; omega)
 refine zC ?_
 refine cr <| s_ Qa <| s_ Qf <| s_ Qd ?_
 refine QJ hsf (fun r H' ⟨hr1, hr2⟩ => ?_)
 subst hr1 hr2
 show Qe _ _ _ _ ((27, .v (.bool (decide q))) :: _) [(b, ⟨tD, [ei left1, ei odd, .v (.bool dead1), .sl false (log.map eb), ei synced, .sl false (snap.map eb), ei room], 7⟩)] _
 refine s_ Qb <| zC ?_
 refine cr <| s_ Qa <| s_ Qa <| gF (fun hg => Qa) ?_
 refine gF (fun hg => Qf (hx := u_ hg)) ?_
 refine gF (fun hg => Qd (hx := u_ hg)) ?_
 refine gF (fun hg => Qd (hx := u_ hg)) ?_
 refine gF (fun hg => Ql (hx := u_ hg)) ?_
 refine gF (fun hg => XB (hx := u_ hg)) ?_
 refine s_ YD <| zC ?_
 refine ci ?_ ?_
 ·intro ho2
  rw [if_pos ho2]
  refine zC ?_
  refine cr <| s_ Qa <| s_ Qa <| s_ Qa <| s_ Qf <| s_ Qd <| s_ Ql <| s_ Qa <| s_ (O3 (i := n) (xs := log.map eb) (ys := (log.take n.toNat).map eb) (by rw [List.map_take]) (h2 := by simp only [List.length_map]; omega)) <| s_ (QK (ho)) <| s_ Qa <| s_ Qf <| s_ Qd <| Qw ?_
  refine s_ Qf <| s_ Qd <| Qw ?_
  refine zC ?_
  refine cr <| s_ Qa <| s_ YE <| zC ?_
  refine ci ?_ ?_
  ·intro hq
   refine zC ?_
   refine cr <| s_ Qb <| zC ?_
   refine zR ?_
   refine rh kR ⟨?_, rfl⟩ (Le.refl _)
   simp [hq]; rfl
  ·intro hq
   refine zC ?_
   refine cr <| s_ Qb <| zC ?_
   refine zR ?_
   refine rh kR ⟨?_, rfl⟩ (Le.refl _)
   simp [Decidable.not_not.1 hq]; rfl
 ·intro ho2
  rw [if_neg ho2]
  refine zC ?_
  refine cr <| s_ Qa <| s_ YE <| zC ?_
  refine ci ?_ ?_
  ·intro hq
   refine zC ?_
   refine cr <| s_ Qb <| zC ?_
   refine zR ?_
   refine rh kR ⟨?_, rfl⟩ (Le.refl _)
   simp [hq]; rfl
  ·intro hq
   exact absurd (.inl (Decidable.not_not.1 hq)) ho2
def ZD (d : Dk) (x : List UInt8) : Dk × Int := if d.dead then (d, 20) else if d.room < x.length then (d, 19) else
 (if (QT d).2 = true ∨ d.odd = 0 then { (QT d).1 with snap := x, log := [], synced := 0 } else (QT d).1, if (QT d).2 then 0 else 20)
theorem Iu (b : Nat) (d : Dk) (x : List UInt8) (hd : UI d) (hx : x.length ≤ 1000000000) : FnH Tryz.prog 169 [pW b, bl x] (DkH b d) (fun r H => r = ei (ZD d x).2 ∧ H = DkH b (ZD d x).1) := by
 have hsf := J4 b d hd
 obtain ⟨left1, dead1, done, hsp⟩ := Zp d
 obtain ⟨left, odd, dead, log, synced, snap, room⟩ := d
 obtain ⟨p, ip, rfl⟩ := YS dead
 simp only at hsp
 rw [hsp] at hsf
 obtain ⟨q, iq, rfl⟩ := YS done
 have ho := Lq x (by omega)
 refine fe Tryz.func169 fun S0 w0 => ?_
 show Sim _ _ [(0, pW b), (1, .sl false (x.map eb))] [(b, ⟨tD, [ei left, ei odd, .v (.bool (decide p)), .sl false (log.map eb), ei synced, .sl false (snap.map eb), ei room], 7⟩)] _
 refine zC ?_
 refine cr <| s_ Qb <| zC ?_
 refine cr <| s_ Qa <| s_ Qf <| s_ Qd <| s_ Qd <| s_ Ql <| s_ Qb <| zC ?_
 refine ci ?_ ?_
 ·intro hp
  have hA : ZD ⟨left, odd, decide p, log, synced, snap, room⟩ x = (⟨left, odd, decide p, log, synced, snap, room⟩, 20) := by
   unfold ZD
   rw [if_pos (by simpa using hp)]
  rw [hA]
  refine zC ?_
  refine cr <| s_ Qb <| zC ?_
  refine zR ?_
  exact rh kR ⟨rfl, rfl⟩ (Le.refl _)
 intro hp
 refine zC ?_
 refine cr <| s_ Qa ?_
 (first | refine s_ QP ?_ | refine s_ QO ?_)
 refine s_ Qa <| s_ Qf <| s_ Qd <| s_ Ql <| s_ X0 <| s_ Qb <| zC ?_
 refine ci ?_ ?_
 ·intro hf
  simp only [List.length_map] at hf
  have hA : ZD ⟨left, odd, decide p, log, synced, snap, room⟩ x = (⟨left, odd, decide p, log, synced, snap, room⟩, 19) := by
   unfold ZD
   rw [if_neg (by simpa using hp), if_pos hf]
  rw [hA]
  refine zC ?_
  refine cr <| s_ Qb <| zC ?_
  refine zR ?_
  exact rh kR ⟨rfl, rfl⟩ (Le.refl _)
 intro hf
 simp only [List.length_map] at hf
 have hA : ZD ⟨left, odd, decide p, log, synced, snap, room⟩ x = (if q ∨ odd = 0 then ⟨left1, odd, dead1, [], 0, x, room⟩ else ⟨left1, odd, dead1, log, synced, snap, room⟩, if decide q then 0 else 20) := by
  unfold ZD
  rw [if_neg (by simpa using hp), if_neg hf, hsp]
  simp only [decide_eq_true_eq]
 rw [hA]
 refine zC ?_
 refine cr <| s_ Qa <| s_ Qf <| s_ Qd ?_
 refine QJ hsf (fun r H' ⟨hr1, hr2⟩ => ?_)
 subst hr1 hr2
 show Qe _ _ _ _ ((23, .v (.bool (decide q))) :: _) [(b, ⟨tD, [ei left1, ei odd, .v (.bool dead1), .sl false (log.map eb), ei synced, .sl false (snap.map eb), ei room], 7⟩)] _
 refine s_ Qb <| zC ?_
 refine cr <| s_ Qa <| s_ Qa <| gF (fun hg => Qa) ?_
 refine gF (fun hg => Qf (hx := u_ hg)) ?_
 refine gF (fun hg => Qd (hx := u_ hg)) ?_
 refine gF (fun hg => Qd (hx := u_ hg)) ?_
 refine gF (fun hg => Ql (hx := u_ hg)) ?_
 refine gF (fun hg => XB (hx := u_ hg)) ?_
 refine s_ YD <| zC ?_
 refine ci ?_ ?_
 ·intro ho2
  rw [if_pos ho2]
  refine zC ?_
  refine cr <| s_ Qa <| s_ Qa <| s_ Qa <| s_ Qa <| s_ (QK (ho)) <| s_ Qf <| s_ Qd <| Qw ?_
  refine s_ Qf <| s_ Qd <| Qw ?_
  refine s_ Qf <| s_ Qd <| Qw ?_
  refine zC ?_
  refine cr <| s_ Qa <| s_ YE <| zC ?_
  refine ci ?_ ?_
  ·intro hq
   refine zC ?_
   refine cr <| s_ Qb <| zC ?_
   refine zR ?_
   refine rh (H' := DkH b ⟨left1, odd, dead1, [], 0, x, room⟩) (kK kR) ⟨?_, rfl⟩ (Le.refl _)
   simp [hq]; rfl
  ·intro hq
   refine zC ?_
   refine cr <| s_ Qb <| zC ?_
   refine zR ?_
   refine rh (H' := DkH b ⟨left1, odd, dead1, [], 0, x, room⟩) (kK kR) ⟨?_, rfl⟩ (Le.refl _)
   simp [Decidable.not_not.1 hq]; rfl
 ·intro ho2
  rw [if_neg ho2]
  refine zC ?_
  refine cr <| s_ Qa <| s_ YE <| zC ?_
  refine ci ?_ ?_
  ·intro hq
   refine zC ?_
   refine cr <| s_ Qb <| zC ?_
   refine zR ?_
   refine rh kR ⟨?_, rfl⟩ (Le.refl _)
   simp [hq]; rfl
  ·intro hq
   exact absurd (.inl (Decidable.not_not.1 hq)) ho2
theorem I1 (n : Int) (h0 : 1 ≤ n) (h1 : n ≤ 16777216) : FnH Tryz.prog 26 [ei n] [] (fun r H => ∃ b, r = .tup [pW b, ei 0] ∧ H = DkH b ⟨0, 0, false, [], 0, [], n⟩) := by
 refine fe Tryz.func26 fun S0 w0 => ?_
 show Sim _ _ [(0, ei n)] _ _
 refine zC ?_
 refine cr <| s_ Qb <| s_ Qb <| zC ?_
 refine cr <| s_ Qa <| s_ QR <| s_ Qa <| gF (fun hg => Qa) ?_
 refine gF (fun hg => X0 (hx := u_ hg)) ?_
 refine s_ YD <| zC ?_
 refine ci ?_ ?_
 ·intro h; exact absurd h (by omega)
 intro _
 refine zC ?_
 refine cr <| s_ Qa <| s_ (Zv 7 [_, _, _, _, _, _, _]) ?_
 refine XN fun b12 _ => ?_
 refine s_ Qb <| s_ Qb <| zC ?_
 refine zR ?_
 exact rh (H' := DkH b12 ⟨0, 0, false, [], 0, [], n⟩) (kK kR) ⟨_, rfl, rfl⟩ (Le.refl _)
theorem EK (b : Nat) (d : Dk) : FnH Tryz.prog 74 [pW b] (DkH b d) (fun r H => r = eB d.dead ∧ H = DkH b d) := by
 refine fe Tryz.func74 fun S0 w0 => ?_
 show Sim _ _ [(0, pW b)] (DkH b d) _
 unfold DkH dkC
 refine zC ?_
 refine cr <| s_ Qb <| zC ?_
 refine cr <| s_ Qa <| s_ Qf <| s_ Qd <| s_ Ql <| s_ Qb <| zC ?_
 refine zR ?_
 exact rh kR ⟨rfl, rfl⟩ (Le.refl _)
theorem Co (b : Nat) (d : Dk) (hd : UI d) : FnH Tryz.prog 94 [pW b] (DkH b d) (fun r H => r = bl d.log ∧ H = DkH b d) := by
 have hu := hd.used
 have ho := Lq d.log (by omega)
 refine fe Tryz.func94 fun S0 w0 => ?_
 show Sim _ _ [(0, pW b)] (DkH b d) _
 unfold DkH dkC
 refine zC ?_
 refine cr <| s_ Qb <| zC ?_
 refine cr <| s_ Qa <| s_ Qf <| s_ Qd <| s_ Ql <| s_ (QK (ho)) <| s_ Qb <| zC ?_
 refine zR ?_
 exact rh kR ⟨rfl, rfl⟩ (Le.refl _)
theorem R2 (b : Nat) (d : Dk) (hd : UI d) : FnH Tryz.prog 92 [pW b] (DkH b d) (fun r H => r = bl d.snap ∧ H = DkH b d) := by
 have hu := hd.used
 have ho := Lq d.snap (by omega)
 refine fe Tryz.func92 fun S0 w0 => ?_
 show Sim _ _ [(0, pW b)] (DkH b d) _
 unfold DkH dkC
 refine zC ?_
 refine cr <| s_ Qb <| zC ?_
 refine cr <| s_ Qa <| s_ Qf <| s_ Qd <| s_ Ql <| s_ (QK (ho)) <| s_ Qb <| zC ?_
 refine zR ?_
 exact rh kR ⟨rfl, rfl⟩ (Le.refl _)
def J3 (d : Dk) (pick : Int) : Int := let n := (d.log.length : Int) - d.synced + 1; ((pick.tmod n) + n).tmod n
def LP (d : Dk) (pick : Int) : Dk := { d with left := 0, odd := 0, dead := false, log := d.log.take (d.synced + J3 d pick).toNat, synced := ((d.log.take (d.synced + J3 d pick).toNat).length : Nat) }
theorem UM (d : Dk) (pick : Int) (h0 : 0 ≤ d.synced) (h1 : d.synced ≤ d.log.length) : 0 ≤ J3 d pick ∧ J3 d pick ≤ (d.log.length : Int) - d.synced := by
 unfold J3
 obtain ⟨n, hn⟩ : ∃ n, n = (d.log.length : Int) - d.synced + 1 := ⟨_, rfl⟩
 rw [← hn]
 have hp : 0 < n := by omega
 have h2 := LX pick n hp
 have h3 : 0 ≤ pick.tmod n + n := by
  have := Int.emod_nonneg pick (show n ≠ 0 by omega)
  by_cases h : pick.tmod n < 0
  ·rw [h2.1 h]; exact this
  ·omega
 have h4 := Int.tmod_nonneg n h3
 have h5 := Int.tmod_lt_of_pos (pick.tmod n + n) hp
 show 0 ≤ (pick.tmod n + n).tmod n ∧ (pick.tmod n + n).tmod n ≤ _
 omega
def tJ : TypeId := 157
def JrH (bj bd : Nat) (n : Int) (d : Dk) : Qc := (bj, ⟨tJ, [pW bd, ei n], 2⟩) :: DkH bd d
theorem MU (bj bd : Nat) (n : Int) (d : Dk) : FnH Tryz.prog 161 [pW bj] (JrH bj bd n d) (fun r H => r = ei n ∧ H = JrH bj bd n d) := by
 refine fe Tryz.func161 fun S0 w0 => ?_
 show Sim _ _ [(0, pW bj)] (JrH bj bd n d) _
 unfold JrH
 refine zC ?_
 refine cr <| s_ Qb <| zC ?_
 refine cr <| s_ Qa <| s_ Qf <| s_ Qd <| s_ Ql <| s_ Qb <| zC ?_
 refine zR ?_
 exact rh kR ⟨rfl, rfl⟩ (Le.refl _)
def XL (n : Int) (d : Dk) (x : List UInt8) : Int × Dk × Int :=
 let a := JY d (Qs x)
 if a.2 = 0 then let s := Z8 a.1; if s.2 = 0 then (n + 1, s.1, 0) else (n, s.1, s.2) else (n, a.1, a.2)
theorem Ex (bj bd : Nat) (n : Int) (d : Dk) (x : List UInt8) (hd : UI d) (hd2 : UI (JY d (Qs x)).1) (hx : x.length ≤ 4194304) (h0 : 0 ≤ n) (h1 : n ≤ 1000) :
  FnH Tryz.prog 162 [pW bj, bl x] (JrH bj bd n d) (fun r H => r = ei (XL n d x).2.2 ∧ H = JrH bj bd (XL n d x).1 (XL n d x).2.1) := by
 have hf := MK false x hx
 have hfl := Xy x
 have ha := MP bd d (Qs x) hd (by omega)
 have hs := It bd (JY d (Qs x)).1 hd2
 obtain ⟨⟨d1, e1⟩, hap⟩ : ∃ a, JY d (Qs x) = a := ⟨_, rfl⟩
 obtain ⟨⟨d2, e2⟩, hsy⟩ : ∃ a, Z8 d1 = a := ⟨_, rfl⟩
 rw [hap] at ha hs
 simp only at ha hs
 rw [hsy] at hs
 simp only at hs
 have hA : XL n d x = if e1 = 0 then (if e2 = 0 then (n + 1, d2, 0) else (n, d2, e2)) else (n, d1, e1) := by
  unfold XL
  rw [hap]
  simp only
  rw [hsy]
 rw [hA]
 refine fe Tryz.func162 fun S0 w0 => ?_
 show Sim _ _ [(0, pW bj), (1, bl x)] (JrH bj bd n d) _
 unfold JrH
 refine zC ?_
 refine cr <| s_ Qb <| zC ?_
 refine cr <| s_ Qa <| s_ (QK (hf)) <| s_ Qa <| s_ QC <| s_ QC <| s_ Qb <| s_ Qb <| zC ?_
 refine zC ?_
 refine cr <| s_ Qa <| s_ XB <| zC ?_
 refine ci ?_ ?_
 rotate_left
 ·intro h; exact absurd rfl h
 intro _
 refine zC ?_
 refine cr <| s_ Qa <| s_ Qf <| s_ Qd <| s_ Ql <| s_ Qa ?_
 refine QU (Hr := [_]) ha (List.perm_append_comm (l₁ := [_])) (fun r H' ⟨hr1, hr2⟩ => ?_)
 subst hr1 hr2
 refine QG List.perm_append_comm ?_
 refine s_ Qb <| zC ?_
 refine cr <| s_ Qa <| s_ XB <| zC ?_
 refine ci ?_ ?_
 ·intro he1
  have he1' : e1 = 0 := he1
  rw [if_pos he1']
  refine zC ?_
  refine cr <| s_ Qa <| s_ Qf <| s_ Qd <| s_ Ql ?_
  refine QU (Hr := [_]) hs (List.perm_append_comm (l₁ := [_])) (fun r H' ⟨hr1, hr2⟩ => ?_)
  subst hr1 hr2
  refine QG List.perm_append_comm ?_
  refine s_ Qb <| zC ?_
  refine cr <| s_ Qa <| s_ XB <| zC ?_
  refine ci ?_ ?_
  ·intro he2
   have he2' : e2 = 0 := he2
   rw [if_pos he2']
   subst he2'
   refine zC ?_
   refine cr <| s_ Qa <| s_ Qf <| s_ Qd <| s_ Ql <| s_ Q0 <| s_ Qf <| s_ Qd <| Qw ?_
   refine zC ?_
   refine cr <| s_ Qa <| s_ Qb <| zC ?_
   refine zR ?_
   exact rh kR ⟨rfl, rfl⟩ (Le.refl _)
  ·intro he2
   have he2' : ¬ e2 = 0 := he2
   rw [if_neg he2']
   refine zC ?_
   refine cr <| s_ Qa <| s_ Qb <| zC ?_
   refine zR ?_
   exact rh kR ⟨rfl, rfl⟩ (Le.refl _)
 ·intro he1
  have he1' : ¬ e1 = 0 := he1
  rw [if_neg he1']
  refine zC ?_
  refine cr <| s_ Qa <| s_ XB <| zC ?_
  refine ci ?_ ?_
  ·intro h; exact absurd h he1
  intro _
  refine zC ?_
  refine cr <| s_ Qa <| s_ Qb <| zC ?_
  refine zR ?_
  exact rh kR ⟨rfl, rfl⟩ (Le.refl _)
def Xk (n : Int) (d : Dk) (x : List UInt8) : Int × Dk × Int := let a := ZD d (Qs x); if a.2 = 0 then (0, a.1, 0) else (n, a.1, a.2)
theorem Ro (bj bd : Nat) (n : Int) (d : Dk) (x : List UInt8) (hd : UI d) (hx : x.length ≤ 4194304) :
  FnH Tryz.prog 163 [pW bj, bl x] (JrH bj bd n d) (fun r H => r = ei (Xk n d x).2.2 ∧ H = JrH bj bd (Xk n d x).1 (Xk n d x).2.1) := by
 have hf := MK false x hx
 have hfl := Xy x
 have ha := Iu bd d (Qs x) hd (by omega)
 obtain ⟨⟨d1, e1⟩, hap⟩ : ∃ a, ZD d (Qs x) = a := ⟨_, rfl⟩
 rw [hap] at ha
 simp only at ha
 have hA : Xk n d x = if e1 = 0 then (0, d1, 0) else (n, d1, e1) := by
  unfold Xk
  rw [hap]
 rw [hA]
 refine fe Tryz.func163 fun S0 w0 => ?_
 show Sim _ _ [(0, pW bj), (1, bl x)] (JrH bj bd n d) _
 unfold JrH
 refine zC ?_
 refine cr <| s_ Qb <| zC ?_
 refine cr <| s_ Qa <| s_ (QK (hf)) <| s_ Qa <| s_ QC <| s_ QC <| s_ Qb <| s_ Qb <| zC ?_
 refine zC ?_
 refine cr <| s_ Qa <| s_ XB <| zC ?_
 refine ci ?_ ?_
 rotate_left
 ·intro h; exact absurd rfl h
 intro _
 refine zC ?_
 refine cr <| s_ Qa <| s_ Qf <| s_ Qd <| s_ Ql <| s_ Qa ?_
 refine QU (Hr := [_]) ha (List.perm_append_comm (l₁ := [_])) (fun r H' ⟨hr1, hr2⟩ => ?_)
 subst hr1 hr2
 refine QG List.perm_append_comm ?_
 refine s_ Qb <| zC ?_
 refine cr <| s_ Qa <| s_ XB <| zC ?_
 refine ci ?_ ?_
 ·intro he1
  have he1' : e1 = 0 := he1
  rw [if_pos he1']
  subst he1'
  refine zC ?_
  refine cr <| s_ Qa <| s_ Qf <| s_ Qd <| Qw ?_
  refine zC ?_
  refine cr <| s_ Qa <| s_ Qb <| zC ?_
  refine zR ?_
  exact rh kR ⟨rfl, rfl⟩ (Le.refl _)
 ·intro he1
  have he1' : ¬ e1 = 0 := he1
  rw [if_neg he1']
  refine zC ?_
  refine cr <| s_ Qa <| s_ Qb <| zC ?_
  refine zR ?_
  exact rh kR ⟨rfl, rfl⟩ (Le.refl _)
end Go.Proofs.YtjbokbikkcfjjaaGreat
namespace Go.Proofs.YtjbokbikkcfjjaaGreat
open Go.Cap
attribute [local irreducible] Wm ZQ
def L1 : Option (List UInt8) → List UInt8
 | none => []
 | some s => Qs s
def JI (d : Dk) (l : List (List UInt8)) (tl : List UInt8) : Dk := if tl = [] then d else { d with log := l.flatMap Qs, synced := (l.flatMap Qs).length }
theorem O6 {H : Qc} {b5 : Nat} (v2 v3 v4 : Value) (hm : (b5, (⟨25, [ei 0], 1⟩ : Blk)) ∈ H) : DfH Tryz.prog 91 #[.pointer (some ⟨b5, 0, none⟩), v2, v3, v4] H (fun H' => H' = H) := by
 refine WT Tryz.func91 (vs := [.pointer (some ⟨b5, 0, none⟩), v2, v3, v4]) (by rfl) (by rfl) (by rfl) ?_
 intro S0 w0
 show Sim _ _ [(0, pW b5), (1, .v v2), (2, .v v3), (3, .v v4)] H _
 refine zC ?_
 refine cr <| s_ (Ql (hi := hm)) <| s_ XR <| zC ?_
 refine ci ?_ ?_
 ·intro h; exact absurd rfl h
 intro _
 refine zC ?_
 exact ⟨.inl rfl, _, kR, rfl⟩
theorem OA {d : Dk} (hdead : d.dead = false) (hleft : d.left = 0) : QT d = (d, true) := by
 unfold QT
 rw [if_neg (by omega), hdead]
 rfl
theorem R7 {d : Dk} {l : List (List UInt8)} {tl : List UInt8} (hdead : d.dead = false) (hleft : d.left = 0) (hlog : d.log = l.flatMap Qs ++ tl) (htl : tl ≠ []) : Wk d ((l.flatMap Qs).length : Nat) = (JI d l tl, 0) := by
 have ht : d.log.take (((l.flatMap Qs).length : Nat) : Int).toNat = l.flatMap Qs := by rw [hlog, Int.toNat_natCast, List.take_left' rfl]
 have hle : (l.flatMap Qs).length ≤ d.log.length := by rw [hlog, List.length_append]; omega
 unfold Wk JI
 rw [OA hdead hleft, hdead, ht, if_neg (by simp), if_neg (by omega), if_neg htl, if_pos (.inl rfl), if_pos rfl]
 simp [hdead]
theorem O5 (bd : Nat) (d : Dk) (so : Option (List UInt8)) (l : List (List UInt8)) (tl : List UInt8) (hd : UI d) (hdead : d.dead = false) (hleft : d.left = 0) (hso : d.snap = L1 so) (hsl : ∀ s, so = some s → s.length ≤ 4194304) (hlog : d.log = l.flatMap Qs ++ tl) (hst : DW tl) (hl : ∀ x ∈ l, x.length ≤ 4194304) :
  FnH Tryz.prog 65 [pW bd] (DkH bd d) (fun r H => ∃ bj, r = .tup [pW bj, bl (so.getD []), tBl l, ei 0] ∧ H = JrH bj bd l.length (JI d l tl)) := by
 have hu := hd.used
 have hde := EK bd d
 rw [hdead] at hde
 have hsn := R2 bd d hd
 have hlg := Co bd d hd
 have hsc := IB l tl hst hl (by rw [← hlog]; omega)
 rw [← hlog] at hsc
 have hct := Bw bd d ((l.flatMap Qs).length : Nat) hd
 refine JA Tryz.func65 (by rfl) (by rfl) ?_
 intro S0 w0 hw0
 show Wm _ _ _ [(0, pW bd)] (DkH bd d) _
 refine Jm ?_
 refine zC ?_
 apply cr
 refine XX fun b2 _ => ?_
 refine XX fun b3 _ => ?_
 refine XX fun b4 _ => ?_
 refine XX fun b5 _ => ?_
 refine zC ?_
 refine ⟨rfl, ?_⟩
 refine Jm ?_
 refine zC ?_
 refine cr <| s_ Qa <| s_ Qf <| s_ Qd ?_
 refine QU (Hr := [_, _, _, _]) hde (List.perm_append_comm (l₁ := [_, _, _, _])) (fun r H' ⟨hr1, hr2⟩ => ?_)
 subst hr1 hr2
 refine zC ?_
 refine ci (p := False) (fun h => h.elim) (fun _ => ?_)
 refine zC ?_
 refine ⟨rfl, ?_⟩
 refine Zr ?_
 refine d_s Uf ?_
 refine Vf [.pointer (some ⟨b5, 0, none⟩), .pointer (some ⟨b2, 0, none⟩), .pointer (some ⟨b3, 0, none⟩), .pointer (some ⟨b4, 0, none⟩)] ?_ rfl rfl (zl)
 refine J6 hw0 ?_
 refine zC ?_
 refine cr <| s_ Qa ?_
 refine QU (Hr := [_, _, _, _]) hsn (.refl _) (fun r H' ⟨hr1, hr2⟩ => ?_)
 subst hr1 hr2
 refine s_ Qb <| zC ?_
 refine cr <| s_ Qa ?_
 (first | refine s_ QP ?_ | refine s_ QO ?_)
 refine s_ X0 <| zC ?_
 refine Ju [(0, pW bd), (2, pW b2), (3, pW b3), (4, pW b4), (5, pW b5)] (DkH bd d ++ [(b5, ⟨25, [ei 0], 1⟩), (b4, ⟨117, [.v (.slice none 0 0)], 1⟩), (b3, ⟨34, [bl (so.getD [])], 1⟩), (b2, ⟨91, [.v (.pointer none)], 1⟩)]) ?_ ?_
 ·refine ci ?_ ?_
  ·intro hpos
   rcases so with _ | s
   ·exact absurd hpos (by rw [hso]; simp [L1])
   have h1 := Bh s (hsl s rfl)
   have hso' : d.snap = Qs s := hso
   rw [hso']
   refine zC ?_
   refine cr <| s_ Qa <| s_ (QK (h1)) <| s_ Qa <| s_ QC <| s_ QC <| Qw ?_
   refine Qw ?_
   refine zC ?_
   refine cr <| s_ Ql <| s_ XR <| zC ?_
   refine ci ?_ ?_
   ·intro h; exact absurd rfl h
   intro _
   refine zC ?_
   exact ⟨eL, kR⟩
  ·intro hpos
   rcases so with _ | s
   ·refine zC ?_
    exact ⟨eL, kH (kK (kK (kK kR)))⟩
   ·refine absurd ?_ hpos
    have := Xy s
    have hso' : d.snap = Qs s := hso
    rw [hso', List.length_map]; omega
 refine zC ?_
 refine cr <| s_ Qa ?_
 refine QU (Hr := [_, _, _, _]) hlg (.refl _) (fun r H' ⟨hr1, hr2⟩ => ?_)
 subst hr1 hr2
 refine s_ Qb <| zC ?_
 refine cr <| s_ Qa <| s_ (QK (hsc)) <| s_ Qa <| s_ QC <| s_ QC <| Qw ?_
 refine s_ Qb <| zC ?_
 refine cr <| s_ Qa <| s_ Uf <| s_ Qb <| zC ?_
 refine cr <| s_ Qa <| s_ Qa ?_
 (first | refine s_ QP ?_ | refine s_ QO ?_)
 refine s_ QR <| zC ?_
 refine Ju [(0, pW bd), (2, pW b2), (3, pW b3), (4, pW b4), (5, pW b5)] (DkH bd (JI d l tl) ++ [(b5, ⟨25, [ei 0], 1⟩), (b4, ⟨117, [tBl l], 1⟩), (b3, ⟨34, [bl (so.getD [])], 1⟩), (b2, ⟨91, [.v (.pointer none)], 1⟩)]) ?_ ?_
 ·refine ci ?_ ?_
  ·intro hlt
   have htl : tl ≠ [] := by
    rintro rfl
    rw [hlog, List.append_nil, List.length_map] at hlt
    omega
   have hcf := R7 hdead hleft hlog htl
   rw [hcf] at hct
   refine zC ?_
   refine cr <| s_ Qa <| s_ Qa ?_
   refine JV (fs := [pW bd]) (args := [ei ((l.flatMap Qs).length : Nat)]) (cs := []) hct (Hr := [_, _, _, _]) (.refl _) (fun r H' ⟨hr1, hr2⟩ => ?_)
   subst hr1 hr2
   refine Qw ?_
   refine zC ?_
   exact ⟨eL, kR⟩
  ·intro hge
   have htl : tl = [] := by
    rw [hlog, List.length_map, List.length_append] at hge
    exact List.length_eq_zero_iff.1 (by omega)
   have ho : JI d l tl = d := if_pos htl
   rw [ho]
   refine zC ?_
   exact ⟨eL, kR⟩
 refine zC ?_
 refine ca [0, 1, 2, 3, 5, 6, 7, 4, 8, 9, 10, 11] [4, 8, 9, 10, 11] <| a_ (fun _ => Qa) <| QF ?_
 (first | refine a_ (fun _ => QP) ?_ | refine a_ (fun _ => QO) ?_)
 refine a_ (fun _ => Zv 2 [_, _]) <| QF ?_
 refine QF ?_
 refine QF ?_
 refine AR fun b47 _ => ⟨zd, ?_⟩
 refine XH ?_
 refine XH ?_
 refine XH ?_
 refine XH ?_
 apply an
 refine zC ?_
 apply Yc
 refine ⟨_, O6 _ _ _ (zm), ?_⟩
 rintro H1 rfl
 refine ⟨_, _, JrH b47 bd l.length (JI d l tl), zrs, Le.refl _, ⟨b47, rfl, rfl⟩, Qh.le ?_⟩
 refine .keep _ _ _ _ _ ?_ (.keep _ _ _ _ _ (X9.refl _) (.nil _))
 refine Ic rfl ?_ rfl rfl
 refine LeL.cons (Le.refl _) (LeL.cons (Le.of_eq ?_) LeL.nil)
 rw [List.length_map]
 rfl
end Go.Proofs.YtjbokbikkcfjjaaGreat
