/-
  frames: Frame, One, Scan.
-/
import Derived.Test.YtjbokbikkcfjjaaGreatAaq
set_option maxRecDepth 16000
set_option maxHeartbeats 8000000
set_option linter.all false
namespace Go.Proofs.YtjbokbikkcfjjaaGreat
open Go.Cap
attribute [local irreducible] POp Qf Bv EOp Sim FnH T.gp
def Qq (x : List UInt8) : List UInt8 := Ud x.length ++ (Ud (Mv x) ++ x)
theorem ZC (n : Int) : (Ud n).length = 4 := rfl
theorem Xv (x : List UInt8) : (Qq x).length = 8 + x.length := by simp [Qq, ZC]; omega
theorem Mk {x : List UInt8} (hx : x.length ≤ 4194304) (r : List UInt8) : Ur (Qq x ++ r) = x.length := by
 unfold Qq
 rw [List.append_assoc]
 exact Vh (by omega) (by omega) _
theorem Ml (x : List UInt8) (r : List UInt8) : Ur ((Qq x ++ r).drop 4) = Mv x := by
 unfold Qq
 rw [List.append_assoc, List.drop_left' (ZC _), List.append_assoc]
 exact Vh (JP x).1 (JP x).2 _
theorem Wq (x r : List UInt8) : (Qq x ++ r).drop 8 = x ++ r := by
 unfold Qq
 rw [List.append_assoc, List.append_assoc, ← List.append_assoc, List.drop_left' (by rw [List.length_append]; rfl)]
theorem Mm (f : Bool) (x : List UInt8) (hx : x.length ≤ 4194304) : FnP Tryz.prog 166 [.sl f (x.map eb)] (fun r => r = .tup [bl (Qq x), ei 0]) := by
 have hr := JP x
 obtain ⟨c, hc⟩ : ∃ c : Nat, Mv x = (c : Int) := ⟨(Mv x).toNat, by omega⟩
 have h1 := D3 x.length
 have h2 := Dh f x (by omega)
 have h3 := D3 c
 rw [← hc] at h3
 have h4 := Wy true [(true, Ud x.length), (true, Ud c), (f, x)] (by simp [Jy, ZC]; omega) (by simp)
 rw [← hc] at h4
 refine fe Tryz.func166 fun S0 w0 => ?_
 show Sim _ _ [(0, .sl f (x.map eb))] _ _
 refine zC ?_
 refine cr <| s_ Qc <| s_ Qc <| zC ?_
 refine cr <| s_ Qa ?_
 (first | refine s_ QR ?_ | refine s_ QP ?_)
 refine s_ XZ <| zC ?_
 refine ci ?_ ?_
 ·intro h; exact absurd h (by simp only [List.length_map]; omega)
 intro _
 refine zC ?_
 refine cr <| s_ Qa ?_
 (first | refine s_ QR ?_ | refine s_ QP ?_)
 refine s_ X3 ?_
 rw [List.length_map, JT (a := ((x.length : Nat) : Int)) (by omega) (by omega)]
 refine s_ (QM (h1)) <| s_ Qa <| s_ (QM (h2)) <| s_ (QM (h3)) <| s_ Qa <| s_ J9 <| s_ (QM (h4)) <| s_ Qc <| s_ Qc <| zC ?_
 refine zE ?_
 exact Le.of_eq (by simp [XF, Jy, bl, Qq]; rfl)
theorem Ch (x : List UInt8) (hx : x.length ≤ 4194304) : FnP Tryz.prog 93 [.sl false ((Qq x).map eb)] (fun r => r = .tup [bl x, ei 0]) := by
 have hlen := Xv x
 have h1 := YV false (Qq x) (by omega)
 have hn := Mk hx []
 have hcr := Ml x []
 have hdr := Wq x []
 rw [List.append_nil] at hn hcr hdr
 rw [hn] at h1
 rw [List.append_nil] at hdr
 have h2 := Dh false x (by omega)
 have h3 := YV false ((Qq x).drop 4) (by rw [List.length_drop]; omega)
 rw [hcr] at h3
 have h4 := YZ false x (by omega)
 refine fe Tryz.func93 fun S0 w0 => ?_
 show Sim _ _ [(0, .sl false ((Qq x).map eb))] _ _
 refine zC ?_
 refine cr <| s_ Qc <| s_ Qc <| zC ?_
 refine cr <| s_ Qa ?_
 (first | refine s_ QR ?_ | refine s_ QP ?_)
 refine s_ QX <| zC ?_
 refine ci ?_ ?_
 ·intro h; exact absurd h (by simp only [List.length_map]; omega)
 intro _
 refine zC ?_
 refine ca [0, 1, 2, 3, 4, 5] [] <| a_ (fun _ => Qa) <| a_ (fun _ => QM (h1)) <| a_ (fun _ => Qa) <| a_ (fun _ => Uq (i := 8) (xs := (Qq x).map eb) (ys := x.map eb) (by rw [← hdr, List.map_drop]; rfl)) <| a_ (fun _ => Qc) <| a_ (fun _ => Qc) ?_
 apply an
 refine zC ?_
 refine cr <| s_ Qa <| s_ XZ <| s_ Qc <| zC ?_
 refine ci ?_ ?_
 ·intro h; exact absurd h (by omega)
 intro _
 refine zC ?_
 refine cr <| s_ Qa <| s_ X3 ?_
 rw [Yo (a := ((x.length : Nat) : Int)) (by omega) (by omega)]
 refine s_ Qa ?_
 (first | refine s_ QR ?_ | refine s_ QP ?_)
 refine s_ XZ <| s_ Qc <| zC ?_
 refine ci ?_ ?_
 ·intro h; exact absurd h (by simp only [List.length_map]; omega)
 intro _
 refine zC ?_
 refine cr <| s_ Qa <| s_ X3 ?_
 rw [Yo (a := ((x.length : Nat) : Int)) (by omega) (by omega)]
 refine s_ Qa ?_
 (first | refine s_ QR ?_ | refine s_ QP ?_)
 refine s_ QX <| s_ Qc <| zC ?_
 refine ci ?_ ?_
 ·intro h; exact absurd h (by simp only [List.length_map]; omega)
 intro _
 refine zC ?_
 refine ca [0, 1, 2, 3, 4, 5, 6] [] <| a_ (fun _ => Qa) <| a_ (fun _ => QM (h2)) <| a_ (fun _ => Qa) <| a_ (fun _ => Uq (i := 4) (xs := (Qq x).map eb) (ys := ((Qq x).drop 4).map eb) (by rw [List.map_drop]; rfl)) <| a_ (fun _ => QM (h3)) <| a_ (fun _ => Yw) <| a_ (fun _ => Qc) ?_
 apply an
 refine zC ?_
 refine ci ?_ ?_
 ·intro h; exact absurd rfl h
 intro _
 refine zC ?_
 refine cr <| s_ Qa <| s_ (QM (h4)) <| s_ Qc <| s_ Qc <| zC ?_
 refine zE ?_
 exact Le.refl _
def tBl (l : List (List UInt8)) : T := .sl false (l.map bl)
def OBl (l : List (List UInt8)) (v : Value) (Hs : Qb) : Prop := OSl tBB 1 (l.map bl) v Hs
theorem bl1 (l : List (List UInt8)) : ∀ x ∈ l.map bl, x.cells.length = 1 := zk
theorem Bp (l : List (List UInt8)) : ∀ x ∈ l.map bl, x.solid := Zt _ (fun _ => .inl rfl) _
theorem OBl.len {l : List (List UInt8)} {v : Value} {Hs : Qb} (h : OBl l v Hs) : ∃ p c, v = .slice p (l.map bl).length c := OSl.len h
def Dr (t : List UInt8) : Prop := t.length < 8 ∨ 4194304 < Ur t ∨ (t.length : Int) - 8 < Ur t
theorem E4 (l : List (List UInt8)) {k : Nat} (hk : k < l.length) : (l.take (k + 1)).flatMap Qq = (l.take k).flatMap Qq ++ Qq l[k] := by
 rw [List.take_succ_eq_append_getElem hk, List.flatMap_append]
 simp
theorem M9 (l : List (List UInt8)) (k : Nat) (t : List UInt8) : (l.flatMap Qq ++ t).drop ((l.take k).flatMap Qq).length = (l.drop k).flatMap Qq ++ t := by
 conv => lhs; rw [← List.take_append_drop k l]
 rw [List.flatMap_append, List.append_assoc, List.take_append_drop, List.drop_left' rfl]
theorem Il (l : List (List UInt8)) (k : Nat) : ((l.take k).flatMap Qq).length ≤ (l.flatMap Qq).length := by
 conv => rhs; rw [← List.take_append_drop k l]
 rw [List.flatMap_append, List.length_append]; omega
theorem RG (l : List (List UInt8)) (tl : List UInt8) (hst : Dr tl) (hl : ∀ x ∈ l, x.length ≤ 4194304) (hb : (l.flatMap Qq ++ tl).length ≤ 100000000) : FnP Tryz.prog 95 [.sl false ((l.flatMap Qq ++ tl).map eb)] (fun r => r = .tup [tBl l, ei (l.flatMap Qq).length]) := by
 obtain ⟨B, hB⟩ : ∃ B, B = l.flatMap Qq ++ tl := ⟨_, rfl⟩
 rw [← hB] at hb ⊢
 have hcnt : l.length ≤ 100000000 := by
  have : l.length ≤ (l.flatMap Qq).length := by
   clear hl hB
   induction l with
   | nil => simp
   | cons x l ih => rw [List.flatMap_cons, List.length_append, Xv, List.length_cons]; omega
  rw [hB, List.length_append] at hb
  omega
 refine FnH.give (Φ := fun r H => ∃ v, r = .tup [.v v, ei (l.flatMap Qq).length] ∧ OBl l v H) ?_ (by rintro r H ⟨v, rfl, ho⟩; exact Qz.tup (Qg.cons (OSl.lend ho (fun _ h => h) (bl1 _) (Bp _)) (Qg.cons (Qz.le (Le.refl _)) Qg.nil)))
 refine fe Tryz.func95 fun S0 w0 => ?_
 show Sim _ _ [(0, .sl false (B.map eb))] _ _
 refine zC ?_
 refine cr <| s_ Qc <| s_ Qc <| zC ?_
 apply Qt (σ := Nat × Value × Qb) (ok := fun s => s.1 ≤ l.length ∧ OBl (l.take s.1) s.2.1 s.2.2) (env := fun s => [(2, .v s.2.1), (3, ei ((l.take s.1).flatMap Qq).length), (0, .sl false (B.map eb))]) (heap := fun s => s.2.2) (μ := fun s => l.length + 1 - s.1) (s0 := (0, .slice none 0 0, []))
 ·exact ⟨Nat.zero_le _, Ze⟩
 ·exact eL
 ·exact kR
 rintro ⟨k, v, H⟩ ⟨hk, ho⟩
 simp only at hk ho
 show Sim _ _ [(2, .v v), (3, ei ((l.take k).flatMap Qq).length), (0, .sl false (B.map eb))] H _
 have hsp := M9 l k tl
 rw [← hB] at hsp
 have hle := Il l k
 have hBl : (l.flatMap Qq).length ≤ B.length := by rw [hB, List.length_append]; omega
 obtain ⟨p, c, rfl⟩ := ho.len
 by_cases hkl : k < l.length
 ·obtain ⟨x, hx⟩ : ∃ x, x = l[k] := ⟨_, rfl⟩
  obtain ⟨rest, hrest⟩ : ∃ rest, rest = (l.drop (k + 1)).flatMap Qq ++ tl := ⟨_, rfl⟩
  have htodo : (l.drop k).flatMap Qq ++ tl = Qq x ++ rest := by
   rw [List.drop_eq_getElem_cons hkl, List.flatMap_cons, List.append_assoc, ← hrest, ← hx]
  rw [htodo] at hsp
  have hxl : x.length ≤ 4194304 := hl x (by rw [hx]; exact List.getElem_mem hkl)
  have hfl := Xv x
  have h1 := YV false (Qq x ++ rest) (by rw [List.length_append]; omega)
  rw [Mk hxl rest] at h1
  have h2 := Dh false x (by omega)
  have h3 := YV false ((Qq x ++ rest).drop 4) (by rw [List.length_drop, List.length_append]; omega)
  rw [Ml x rest] at h3
  have h4 := YZ false x (by omega)
  have hnx := E4 l hkl
  rw [← hx] at hnx
  have htot : (Qq x ++ rest).length ≤ 100000000 := by rw [← hsp, List.length_drop]; omega
  refine zC ?_
  refine cr <| s_ Qa <| s_ Qa <| s_ (Uq (i := ((((l.take k).flatMap Qq).length : Nat) : Int)) (xs := B.map eb) (ys := (Qq x ++ rest).map eb) (by rw [← hsp, List.map_drop]; rfl)) <| s_ Qc <| zC ?_
  refine cr <| s_ Qa ?_
  (first | refine s_ QR ?_ | refine s_ QP ?_)
  refine s_ QX <| zC ?_
  refine ci ?_ ?_
  ·intro h; exact absurd h (by simp only [List.length_map, List.length_append]; omega)
  intro _
  refine zC ?_
  refine cr <| s_ Qa <| s_ (QM (h1)) <| s_ Qc <| zC ?_
  refine zC ?_
  refine cr <| s_ Qa <| s_ XZ <| s_ Qa <| gF (fun hg => Qa) ?_
  refine gF (fun hg => X3 (hx := u_ hg)) ?_
  refine gF (fun hg => Qa) ?_
  (first | refine gF (fun hg => QR (hx := u_ hg)) ?_ | refine gF (fun hg => QP (hx := u_ hg)) ?_)
  refine gF (fun hg => ZP (hx := u_ hg)) ?_
  refine gF (fun hg => XZ (hx := u_ hg) (hy := u_ hg)) ?_
  refine s_ Yc <| zC ?_
  refine ci ?_ ?_
  ·intro h
   rw [Yo (a := ((x.length : Nat) : Int)) (by omega) (by omega)] at h
   exact absurd h (by simp only [List.length_map, List.length_append]; omega)
  intro _
  refine zC ?_
  refine cr <| s_ Qa <| s_ Qa <| s_ Ve ?_
  rw [JT (a := 8 + ((x.length : Nat) : Int)) (by omega) (by omega)]
  refine s_ (Cc (i := 8) (j := 8 + ((x.length : Nat) : Int)) (xs := (Qq x ++ rest).map eb) (ys := x.map eb) (by
   rw [← List.map_drop, ← List.map_take, show (8 : Int).toNat = 8 from rfl, Wq, show (8 + ((x.length : Nat) : Int)).toNat - 8 = x.length by omega, List.take_left' rfl]) (h2 := by simp only [List.length_map, List.length_append]; omega)) ?_
  refine s_ Qc <| zC ?_
  refine zC ?_
  refine ca [0, 1, 2, 3, 4, 5] [] <| a_ (fun _ => Qa) <| a_ (fun _ => QM (h2)) <| a_ (fun _ => Qa) <| a_ (fun _ => Uq (i := 4) (xs := (Qq x ++ rest).map eb) (ys := ((Qq x ++ rest).drop 4).map eb) (by rw [List.map_drop]; rfl) (h2 := by simp only [List.length_map, List.length_append]; omega)) <| a_ (fun _ => QM (h3)) <| a_ (fun _ => Yw) ?_
  apply an
  refine zC ?_
  refine ci ?_ ?_
  ·intro h; exact absurd rfl h
  intro _
  refine zC ?_
  refine cr <| s_ Qa <| s_ Qa <| s_ (QM (h4)) <| s_ J9 ?_
  refine Ir (ho := ho) (A := []) (B := []) (ys := [bl x]) (f := true) (bl1 _) (fun v' Hs' ho' => ?_) (hH := by simp)
  obtain ⟨p', c', rfl⟩ := ho'.len
  refine s_ Qc <| zC ?_
  refine cr <| s_ Qa <| s_ Qa <| s_ X3 ?_
  rw [Yo (a := ((x.length : Nat) : Int)) (by omega) (by omega)]
  refine s_ Q5 <| s_ Q5 <| s_ Qc <| zC ?_
  refine ⟨(k + 1, .slice p' (List.map bl (List.take k l) ++ [bl x]).length c', Hs'), ⟨by simp only; omega, ?_⟩, (by simp only []; omega), ⟨?_, ?_, eL⟩, by simp only [List.nil_append, List.append_nil]; exact kR⟩
  ·simp only
   rw [List.take_succ_eq_append_getElem hkl, ← hx]
   unfold OBl
   rw [List.map_append]
   exact ho'
  ·apply Qk; (exact zG)
   exact Le.refl _
  ·apply Qk; (exact zG)
   simp only
   rw [hnx, List.length_append, hfl]
   exact Le.of_eq (by simp [ei])
 ·have hke : k = l.length := by omega
  subst hke
  rw [List.drop_length, List.flatMap_nil, List.nil_append] at hsp
  rw [List.take_length] at hsp hle ho
  rw [List.take_length]
  have hbb : B.length = (l.flatMap Qq).length + tl.length := by rw [hB, List.length_append]
  refine zC ?_
  refine cr <| s_ Qa <| s_ Qa <| s_ (Uq (i := (((l.flatMap Qq).length : Nat) : Int)) (xs := B.map eb) (ys := tl.map eb) (by rw [← hsp, List.map_drop]; rfl)) <| s_ Qc <| zC ?_
  refine cr <| s_ Qa ?_
  (first | refine s_ QR ?_ | refine s_ QP ?_)
  refine s_ QX <| zC ?_
  refine ci ?_ ?_
  ·intro _
   refine zC ?_
   refine cr <| s_ Qa <| s_ Qa <| s_ Qc <| s_ Qc <| zC ?_
   refine zR ?_
   exact rh kR ⟨_, rfl, ho⟩ (Le.refl _)
  intro h8
  have h8' : 8 ≤ tl.length := by simp only [List.length_map] at h8; omega
  have hr := MV tl (by omega)
  have h1 := YV false tl (by omega)
  refine zC ?_
  refine cr <| s_ Qa <| s_ (QM (h1)) <| s_ Qc <| zC ?_
  refine zC ?_
  refine cr <| s_ Qa <| s_ XZ <| s_ Qa <| gF (fun hg => Qa) ?_
  refine gF (fun hg => X3 (hx := u_ hg)) ?_
  refine gF (fun hg => Qa) ?_
  (first | refine gF (fun hg => QR (hx := u_ hg)) ?_ | refine gF (fun hg => QP (hx := u_ hg)) ?_)
  refine gF (fun hg => ZP (hx := u_ hg)) ?_
  refine gF (fun hg => XZ (hx := u_ hg) (hy := u_ hg)) ?_
  refine s_ Yc <| zC ?_
  refine ci ?_ ?_
  ·intro _
   refine zC ?_
   refine cr <| s_ Qa <| s_ Qa <| s_ Qc <| s_ Qc <| zC ?_
   refine zR ?_
   exact rh kR ⟨_, rfl, ho⟩ (Le.refl _)
  ·intro h
   refine absurd ?_ h
   rw [Yo (by omega) (by omega), List.length_map]
   rcases hst with h | h | h
   ·omega
   ·exact .inl h
   ·exact .inr h
end Go.Proofs.YtjbokbikkcfjjaaGreat
namespace Go.Cap
section
variable {K : Ctx} {t : Env} {H Hs Hr : Qb} {N : Env → Qb → Prop} {ops : Array Oper} {i j kg : Nat} {l : List Oper} {ty ty' tp : TypeId} {pos : String} {aft : Array Edge} {kd : Tmp} {p : Prop} {ip : Decidable p}
theorem IX {dst : Option Tmp} {op : Op} {want b0 : Bool} (hj : (ops[j]?).bind (·.dst) = some kg) (hb : t.get kg = .v (.bool b0)) (hw : b0 = want) (h : EOp K t H ⟨dst, op, tp, pos, aft, some (j, want)⟩ (fun t' H' => Qf K ops (i + 1) l t' H' N)) :
  Qf K ops i (⟨dst, op, tp, pos, aft, some (j, want)⟩ :: l) t H N := by
 intro hl a w Q hr hq
 rw [Z7]
 unfold wpOpIn
 have hv : a.tmps.getD kg undef = .bool b0 := by obtain ⟨S, hr⟩ := hr; have := hr.env kg; rw [hb] at this; exact this.v_eq
 simp only [VK hl, (Xn (o := ⟨dst, op, tp, pos, aft, some (j, want)⟩) rfl hj hv).1 (by rw [hw]), if_true]
 exact h a w hr _ Q fun t' H' a' w' hn hr' => hn (Ul hl) a' w' Q hr' hq
theorem OT {f : FuncId} {xs : Array Operand} {ats : Array TypeId} {args : List T} {Φ : T → Qb → Prop} (hp : ¬ p) (hf : FnH K.P f args Hs Φ) (hP : H.Perm (Hs ++ Hr)) (hn : ∀ r H', Φ r H' → Qf K ops (i + 1) l ((kd, r) :: t) (H' ++ Hr) N) (hj : (ops[j]?).bind (·.dst) = some kg := by rfl) (hb : t.get kg = .v (.bool (decide p)) := by exact zG)
  (ha' : EvL t xs.toList args) (hc : Qx K.P f = true := by rfl) (hd : Xf (some kd) K.n = true := by rfl) : Qf K ops i (⟨some kd, .call ⟨.value (.func f), xs, ats⟩, tp, pos, aft, some (j, false)⟩ :: l) t H N :=
 IX hj hb (by simpa using hp) (Yf hf hP hc ha' hd hn)
theorem Bm {x : Operand} {n : Nat} {d : T} {by_ : Nat} {k : IntKind} [hz : QD K.P ty d by_] (h : ∀ b, (∀ c ∈ keys H, ¬ c = b) → Qf K ops (i + 1) l ((kd, .v (.slice (some ⟨b, 0, none⟩) n n)) :: t) ((b, ⟨Xb K.P ty, (List.replicate n d.cells).flatten, n * d.cells.length⟩) :: H) N)
  (hx : t.ev x = .v (.int k n) := by exact zl) (hb : n * by_ ≤ 281474976710656 := by exact zo) (hm : (n : Int) ≤ 9223372036854775807 := by exact zo) (hd : Nat.blt kd K.n = true := by rfl) : Qf K ops i (⟨some kd, .makeSlice ty x x, tp, pos, aft, none⟩ :: l) t H N :=
 Ye (O4 hx hx (by omega) (Int.le_refl _) (by rw [Int.toNat_natCast]; exact hb) hm hd (by simpa using h))
theorem Cu {x y : Operand} {b o n c m : Nat} {ty0 : TypeId} {cells : List T} {f : Bool} {xs : List T} {kk : Nat} {H' : Qb} [hs : YG K.P ty kk] (h : Qf K ops (i + 1) l ((kd, .v (.int .i64 (min xs.length n : Nat))) :: t) H' N) (ho : o + min xs.length n * kk ≤ cells.length) (hx : t.ev x = .v (.slice (some ⟨b, o, none⟩) n c) := by exact zl) (hy : t.ev y = .sl f xs := by exact zl)
  (hi : Z3 H (b, ⟨ty0, cells, m⟩) (b, ⟨ty0, lay cells o ((xs.take (min xs.length n)).flatMap T.cells), m⟩) H' := by exact zr) (hp : Nat.blt 0 kk = true := by rfl) (hk : ∀ x ∈ xs, x.cells.length = kk := by exact zk) (hl : ∀ x ∈ xs, QA x.cells = true := by exact zf) (hd : Nat.blt kd K.n = true := by rfl) :
  Qf K ops i (⟨some kd, .call ⟨.builtin .copy, #[x, y], #[ty, ty']⟩, tp, pos, aft, none⟩ :: l) t H N := Ye (Gc hx hy hi hp hk hl ho hd h)
end
end Go.Cap
namespace Go.Proofs.YtjbokbikkcfjjaaGreat
open Go.Cap
attribute [local irreducible] POp Qf Bv EOp Sim FnH T.gp
theorem Uk (l : List UInt8) : (l.map eb).flatMap T.cells = l.map eb := E8 eb (fun _ => rfl) l
theorem R9 (Z A B : List T) (h : Z.length = A.length + B.length) : lay (lay Z 0 A) A.length B = A ++ B := by
 unfold lay
 simp only [List.take_zero, List.nil_append, Nat.zero_add]
 rw [List.take_left' rfl, List.drop_of_length_le (l := A ++ Z.drop A.length) (by simp; omega), List.append_nil]
theorem W0 (l : List UInt8) (hl : l.length ≤ 1000000000000) : FnP Tryz.prog 73 [bl l] (fun r => r = bl l) := by
 refine FnH.give (Φ := fun r H => ∃ v, r = .v v ∧ OB l v H) ?_ (by rintro r H ⟨v, rfl, ho⟩; exact ho.lend fun _ h => h)
 refine fe Tryz.func73 fun S0 w0 => ?_
 show Sim _ _ [(0, .sl false (l.map eb))] _ _
 refine zC ?_
 refine cr <| s_ Qc <| zC ?_
 refine cr <| s_ Qa ?_
 (first | refine s_ QR ?_ | refine s_ QP ?_)
 refine Bm (fun b6 _ => ?_)
 refine s_ Qc <| zC ?_
 refine cr <| s_ Qa <| s_ Qa ?_
 refine Cu ?_ ?_
 rotate_left
 ·simp [YX, T.cells, Value.cells]
 refine zC ?_
 refine cr <| s_ Qa <| s_ Qc <| zC ?_
 refine zR ?_
 refine rh kR ⟨_, rfl, .inr ⟨b6, (l.map eb).length, rfl, Nat.le_refl _, ?_⟩⟩ (Le.refl _)
 rw [Nat.min_self, List.take_length, Uk, Wj _ _ (by rw [YX]; simp [T.cells, Value.cells])]
 rfl
structure Dk where
 left : Int
 odd : Int
 dead : Bool
 log : List UInt8
 synced : Int
 snap : List UInt8
 room : Int
def tD : TypeId := 89
def dkC (d : Dk) : List T := [ei d.left, ei d.odd, eB d.dead, bl d.log, ei d.synced, bl d.snap, ei d.room]
def DkH (b : Nat) (d : Dk) : Qb := [(b, ⟨tD, dkC d, 7⟩)]
structure Ux (d : Dk) : Prop where
 l0 : 0 ≤ d.left
 l1 : d.left ≤ 1000000000
 r0 : 0 ≤ d.room
 r1 : d.room ≤ 16777216
 used : ((d.log.length + d.snap.length : Nat) : Int) ≤ 100000000
theorem YF (b : Bool) : ∃ (p : Prop) (ip : Decidable p), b = @decide p ip := ⟨b = true, inferInstance, by simp⟩
def QQ (d : Dk) : Dk × Bool := if 0 < d.left then ({ d with left := d.left - 1, dead := decide (d.left - 1 = 0) }, !decide (d.left - 1 = 0)) else (d, !d.dead)
theorem JX (b : Nat) (d : Dk) (hd : Ux d) : FnH Tryz.prog 128 [pW b] (DkH b d) (fun r H => r = eB (QQ d).2 ∧ H = DkH b (QQ d).1) := by
 have h1 := hd.l1
 obtain ⟨left, odd, dead, log, synced, snap, room⟩ := d
 obtain ⟨p, ip, rfl⟩ := YF dead
 simp only at h1
 refine fe Tryz.func128 fun S0 w0 => ?_
 show Sim _ _ [(0, pW b)] (DkH b _) _
 unfold DkH dkC eB
 refine zC ?_
 refine cr <| s_ Qc <| zC ?_
 refine cr <| s_ Qa <| s_ Qe <| s_ Qd <| s_ Qn <| s_ XZ <| zC ?_
 refine ci ?_ ?_
 ·intro hlt
  have hlt' : 0 < left := hlt
  refine zC ?_
  refine cr <| s_ Qa <| s_ Qe <| s_ Qd <| s_ Qn <| s_ ZP <| s_ Qe <| s_ Qd <| QC ?_
  refine zC ?_
  refine cr <| s_ Qa <| s_ Qa <| s_ Qe <| s_ Qd <| s_ Qn <| s_ Xy <| s_ Qe <| s_ Qd <| QC ?_
  refine zC ?_
  refine cr <| s_ Qa <| s_ Qe <| s_ Qd <| s_ Qn <| s_ XY <| s_ Qc <| zC ?_
  refine zR ?_
  refine rh kR (d := eB (!decide (left - 1 = 0))) ?_ ?_
  ·simp only [QQ, if_pos hlt']
   exact ⟨rfl, rfl⟩
  ·exact Le.of_eq (by simp [XF, eB])
 ·intro hlt
  have hlt' : ¬ 0 < left := hlt
  refine zC ?_
  refine cr <| s_ Qa <| s_ Qe <| s_ Qd <| s_ Qn <| s_ XY <| s_ Qc <| zC ?_
  refine zR ?_
  refine rh kR (d := eB (!decide p)) ?_ ?_
  ·simp only [QQ, if_neg hlt']
   exact ⟨rfl, trivial⟩
  ·exact Le.of_eq (by simp [XF, eB])
theorem Y9 (d : Dk) : ∃ left dead done, QQ d = (⟨left, d.odd, dead, d.log, d.synced, d.snap, d.room⟩, done) := by
 unfold QQ
 split
 ·exact ⟨_, _, _, rfl⟩
 ·exact ⟨_, _, _, rfl⟩
def JR (d : Dk) (x : List UInt8) : Dk × Int := if d.dead then (d, 20) else if d.room - d.log.length - d.snap.length < x.length then (d, 19) else
 ({ (QQ d).1 with log := d.log ++ x }, if (QQ d).2 then 0 else 20)
theorem Mr (b : Nat) (d : Dk) (x : List UInt8) (hd : Ux d) (hx : x.length ≤ 1000000000) : FnH Tryz.prog 167 [pW b, bl x] (DkH b d) (fun r H => r = ei (JR d x).2 ∧ H = DkH b (JR d x).1) := by
 have hr0 := hd.r0
 have hr1 := hd.r1
 have hu := hd.used
 have hsf := JX b d hd
 obtain ⟨left1, dead1, done, hsp⟩ := Y9 d
 obtain ⟨left, odd, dead, log, synced, snap, room⟩ := d
 obtain ⟨p, ip, rfl⟩ := YF dead
 simp only at hr0 hr1 hu hsp
 rw [hsp] at hsf
 obtain ⟨q, iq, rfl⟩ := YF done
 refine fe Tryz.func167 fun S0 w0 => ?_
 show Sim _ _ [(0, pW b), (1, .sl false (x.map eb))] [(b, ⟨tD, [ei left, ei odd, .v (.bool (decide p)), .sl false (log.map eb), ei synced, .sl false (snap.map eb), ei room], 7⟩)] _
 refine zC ?_
 refine cr <| s_ Qc <| zC ?_
 refine cr <| s_ Qa <| s_ Qe <| s_ Qd <| s_ Qd <| s_ Qn <| s_ Qc <| zC ?_
 refine ci ?_ ?_
 ·intro hp
  refine zC ?_
  refine cr <| s_ Qc <| zC ?_
  refine zR ?_
  refine rh kR ⟨?_, ?_⟩ (Le.refl _)
  ·simp [JR, hp]; rfl
  ·simp [JR, hp]; rfl
 intro hp
 refine zC ?_
 refine ca [0, 1, 2, 3, 4, 5, 6, 7, 8, 9, 10, 11, 12, 13, 14, 15, 16, 17, 18, 19] [] <| a_ (fun _ => Qa) ?_
 (first | refine a_ (fun _ => QR) ?_ | refine a_ (fun _ => QP) ?_)
 refine a_ (fun _ => Qa) <| a_ (fun _ => Qe) <| a_ (fun _ => Qd) <| QF ?_
 refine a_ (fun _ => Qa) <| a_ (fun _ => Qe) <| a_ (fun _ => Qd) <| QF ?_
 (first | refine a_ (fun _ => QR) ?_ | refine a_ (fun _ => QP) ?_)
 refine a_ (fun _ => ZP) <| a_ (fun _ => Qa) <| a_ (fun _ => Qe) <| a_ (fun _ => Qd) <| QF ?_
 (first | refine a_ (fun _ => QR) ?_ | refine a_ (fun _ => QP) ?_)
 refine a_ (fun _ => ZP) <| a_ (fun _ => XZ) <| a_ (fun _ => Qc) ?_
 apply an
 refine zC ?_
 refine ci ?_ ?_
 ·intro hf
  simp only [List.length_map] at hf
  refine zC ?_
  refine cr <| s_ Qc <| zC ?_
  refine zR ?_
  refine rh kR ⟨?_, ?_⟩ (Le.refl _)
  ·simp [JR, hp, hf]; rfl
  ·simp [JR, hp, hf]; rfl
 intro hf
 simp only [List.length_map] at hf
 refine zC ?_
 refine cr <| s_ Qa <| s_ Qe <| s_ Qd ?_
 refine QN hsf (fun r H' ⟨hr1, hr2⟩ => ?_)
 subst hr1 hr2
 show Qf _ _ _ _ ((36, .v (.bool (decide q))) :: _) [(b, ⟨tD, [ei left1, ei odd, .v (.bool dead1), .sl false (log.map eb), ei synced, .sl false (snap.map eb), ei room], 7⟩)] _
 refine s_ Qc <| zC ?_
 refine cr <| s_ Qa <| s_ Qe <| s_ Qd <| s_ Qn ?_
 (first | refine s_ QR ?_ | refine s_ QP ?_)
 refine s_ Qa ?_
 (first | refine s_ QR ?_ | refine s_ QP ?_)
 refine s_ Q5 ?_
 have hcast : (((log.map eb).length : Nat) : Int) + (((x.map eb).length : Nat) : Int) = ((log.length + x.length : Nat) : Int) := by simp
 rw [hcast]
 refine Bm (fun b6 _ => ?_)
 refine s_ Qc <| zC ?_
 refine cr <| s_ Qa <| s_ Qa <| s_ Qa <| s_ Qe <| s_ Qd <| s_ Qn ?_
 refine Cu ?_ ?_
 rotate_left
 ·simp [YX, T.cells, Value.cells]
 have hmin : min (log.map eb).length (log.length + x.length) = log.length := by simp
 rw [hmin, show ((log.map eb).take log.length).flatMap T.cells = log.map eb by rw [List.take_of_length_le (by simp), Uk]]
 obtain ⟨o, ho, hol, hsub⟩ : ∃ o, (o = log.length ∨ x = []) ∧ o + x.length ≤ log.length + x.length ∧ Jv 1 (some ⟨b6, 0, none⟩) (log.length + x.length) ((log.length : Nat) : Int).toNat (log.length + x.length - ((log.length : Nat) : Int).toNat) = .slice (some ⟨b6, o, none⟩) x.length x.length := by
  by_cases hx0 : x = []
  ·subst hx0
   exact ⟨0, .inr rfl, by simp, by simp [Jv]⟩
  ·have : x.length ≠ 0 := fun h => hx0 (List.length_eq_zero_iff.1 h)
   refine ⟨log.length, .inl rfl, by omega, ?_⟩
   simp only [Jv, Int.toNat_natCast, Option.map_some]
   rw [if_neg (by omega), show log.length + x.length - log.length = x.length by omega]
   simp [Addr.add]
   intro h; simp [h]
 have hfin : lay (lay (List.replicate (log.length + x.length) (T.v (Value.int IntKind.u8 0)).cells).flatten 0 (log.map eb)) o (((x.map eb).take (min (x.map eb).length x.length)).flatMap T.cells) = (log ++ x).map eb := by
  have hz : ((List.replicate (log.length + x.length) (T.v (Value.int IntKind.u8 0)).cells).flatten).length = (log.map eb).length + (x.map eb).length := by simp [YX, T.cells, Value.cells]
  rw [List.length_map, Nat.min_self, List.take_of_length_le (by simp), Uk, List.map_append]
  rcases ho with rfl | rfl
  ·have := R9 _ (log.map eb) (x.map eb) hz
   rwa [List.length_map] at this
  ·simp only [List.map_nil, List.append_nil, List.length_nil, Nat.add_zero] at hz ⊢
   rw [Wj _ _ hz]
   simp [lay]
 refine s_ (Oc (d := T.v (.int .u8 0)) (i := ((log.length : Nat) : Int)) (p := some ⟨b6, 0, none⟩) (n := log.length + x.length) (c := log.length + x.length) (Nat.le_refl _) hsub) <| s_ Qa ?_
 refine Cu ?_ ?_
 rotate_left
 ·rw [JL (by simp [YX, T.cells, Value.cells])]
  simp [YX, T.cells, Value.cells]; omega
 rw [hfin]
 refine zC ?_
 refine Ba 6 (bl (log ++ x)) (G := [_]) (H1 := [_]) ?_ (.refl _) ?_
 ·refine OB.lend (l := log ++ x) (Hs := [_]) (.inr ⟨b6, log.length + x.length, by simp, by simp, ?_⟩) (fun _ h => h)
  rw [Uk]; rfl
 unfold bl
 have hA : JR ⟨left, odd, decide p, log, synced, snap, room⟩ x = (⟨left1, odd, dead1, log ++ x, synced, snap, room⟩, if decide q then 0 else 20) := by
  unfold JR
  rw [if_neg (by simpa using hp), if_neg hf, hsp]
 rw [hA]
 refine zC ?_
 refine cr <| s_ Qa <| s_ Qa <| s_ Qe <| s_ Qd <| QC ?_
 refine zC ?_
 refine cr <| s_ Qa <| s_ XY <| zC ?_
 refine ci ?_ ?_
 ·intro hq
  refine zC ?_
  refine cr <| s_ Qc <| zC ?_
  refine zR ?_
  refine rh kR ⟨?_, ?_⟩ (Le.refl _)
  ·simp [hq]; rfl
  ·rfl
 ·intro hq
  refine zC ?_
  refine cr <| s_ Qc <| zC ?_
  refine zR ?_
  refine rh kR ⟨?_, ?_⟩ (Le.refl _)
  ·simp [Decidable.not_not.1 hq]; rfl
  ·rfl
def ZX (d : Dk) : Dk × Int := if d.dead then (d, 20) else if (QQ d).2 then ({ (QQ d).1 with synced := d.log.length }, 0) else ((QQ d).1, 20)
theorem Rz (b : Nat) (d : Dk) (hd : Ux d) : FnH Tryz.prog 168 [pW b] (DkH b d) (fun r H => r = ei (ZX d).2 ∧ H = DkH b (ZX d).1) := by
 have hsf := JX b d hd
 obtain ⟨left1, dead1, done, hsp⟩ := Y9 d
 obtain ⟨left, odd, dead, log, synced, snap, room⟩ := d
 obtain ⟨p, ip, rfl⟩ := YF dead
 simp only at hsp
 rw [hsp] at hsf
 obtain ⟨q, iq, rfl⟩ := YF done
 refine fe Tryz.func168 fun S0 w0 => ?_
 show Sim _ _ [(0, pW b)] [(b, ⟨tD, [ei left, ei odd, .v (.bool (decide p)), .sl false (log.map eb), ei synced, .sl false (snap.map eb), ei room], 7⟩)] _
 by_cases hp : p
 ·have hA : ZX ⟨left, odd, decide p, log, synced, snap, room⟩ = (⟨left, odd, decide p, log, synced, snap, room⟩, 20) := by
   unfold ZX
   rw [if_pos (by simpa using hp)]
  rw [hA]
  refine zC ?_
  refine cr <| s_ Qc <| zC ?_
  refine cr <| s_ Qa <| s_ Qe <| s_ Qd <| s_ Qd <| s_ Qn <| s_ Qa <| gF (fun hg => Qa) ?_
  refine gF (fun hg => Qe (hx := u_ hg)) ?_
  refine gF (fun hg => Qd (hx := u_ hg)) ?_
  refine gF (d := .any) (fun hg => absurd hp hg) ?_
  refine gF (d := .v (.bool (decide False))) (fun hg => absurd hp hg) ?_
  refine s_ Yc <| zC ?_
  refine ci ?_ ?_
  ·intro _
   refine zC ?_
   refine cr <| s_ Qc <| zC ?_
   refine zR ?_
   exact rh kR ⟨rfl, rfl⟩ (Le.refl _)
  ·intro h; exact absurd (.inl hp) h
 ·have hA : ZX ⟨left, odd, decide p, log, synced, snap, room⟩ = if decide q then (⟨left1, odd, dead1, log, log.length, snap, room⟩, 0) else (⟨left1, odd, dead1, log, synced, snap, room⟩, 20) := by
   unfold ZX
   rw [if_neg (by simpa using hp), hsp]
  refine zC ?_
  refine cr <| s_ Qc <| zC ?_
  refine cr <| s_ Qa <| s_ Qe <| s_ Qd <| s_ Qd <| s_ Qn <| s_ Qa <| gF (fun hg => Qa) ?_
  refine gF (fun hg => Qe (hx := u_ hg)) ?_
  refine gF (fun hg => Qd (hx := u_ hg)) ?_
  refine OT (Hr := []) hp hsf UF (fun r H' ⟨hr1, hr2⟩ => ?_) (ha' := by refine Qp (u_ hp) ?_; exact Xj)
  subst hr1 hr2
  show Qf _ _ _ _ ((12, .v (.bool (decide q))) :: _) [(b, ⟨tD, [ei left1, ei odd, .v (.bool dead1), .sl false (log.map eb), ei synced, .sl false (snap.map eb), ei room], 7⟩)] _
  refine gF (p := p) (fun hg => XY) ?_
  refine s_ Yc <| zC ?_
  refine ci ?_ ?_
  ·intro h
   have hq : ¬ q := h.resolve_left hp
   rw [hA, if_neg (by simpa using hq)]
   refine zC ?_
   refine cr <| s_ Qc <| zC ?_
   refine zR ?_
   exact rh kR ⟨rfl, rfl⟩ (Le.refl _)
  ·intro h
   have hq : q := Decidable.not_not.1 fun hn => h (.inr hn)
   rw [hA, if_pos (by simpa using hq)]
   refine zC ?_
   refine cr <| s_ Qa <| s_ Qa <| s_ Qe <| s_ Qd <| s_ Qn ?_
   (first | refine s_ QR ?_ | refine s_ QP ?_)
   refine s_ Qe <| s_ Qd <| QC ?_
   refine zC ?_
   refine cr <| s_ Qc <| zC ?_
   refine zR ?_
   refine rh kR ⟨rfl, ?_⟩ (Le.refl _)
   simp only [List.length_map]; rfl
def VZ (d : Dk) (n : Int) : Dk × Int := if d.dead then (d, 20) else if n < 0 ∨ (d.log.length : Int) < n then (d, 1) else
 (if (QQ d).2 = true ∨ d.odd = 0 then { (QQ d).1 with log := d.log.take n.toNat, synced := n } else (QQ d).1, if (QQ d).2 then 0 else 20)
theorem Cv (b : Nat) (d : Dk) (n : Int) (hd : Ux d) : FnH Tryz.prog 96 [pW b, ei n] (DkH b d) (fun r H => r = ei (VZ d n).2 ∧ H = DkH b (VZ d n).1) := by
 have hu := hd.used
 have hsf := JX b d hd
 obtain ⟨left1, dead1, done, hsp⟩ := Y9 d
 obtain ⟨left, odd, dead, log, synced, snap, room⟩ := d
 obtain ⟨p, ip, rfl⟩ := YF dead
 simp only at hsp hu
 rw [hsp] at hsf
 obtain ⟨q, iq, rfl⟩ := YF done
 refine fe Tryz.func96 fun S0 w0 => ?_
 show Sim _ _ [(0, pW b), (1, ei n)] [(b, ⟨tD, [ei left, ei odd, .v (.bool (decide p)), .sl false (log.map eb), ei synced, .sl false (snap.map eb), ei room], 7⟩)] _
 refine zC ?_
 refine cr <| s_ Qc <| zC ?_
 refine cr <| s_ Qa <| s_ Qe <| s_ Qd <| s_ Qd <| s_ Qn <| s_ Qc <| zC ?_
 refine ci ?_ ?_
 ·intro hp
  have hA : VZ ⟨left, odd, decide p, log, synced, snap, room⟩ n = (⟨left, odd, decide p, log, synced, snap, room⟩, 20) := by
   unfold VZ
   rw [if_pos (by simpa using hp)]
  rw [hA]
  refine zC ?_
  refine cr <| s_ Qc <| zC ?_
  refine zR ?_
  exact rh kR ⟨rfl, rfl⟩ (Le.refl _)
 intro hp
 refine zC ?_
 refine cr <| s_ Qa <| s_ QX <| s_ Qa <| gF (fun hg => Qa) ?_
 refine gF (fun hg => Qa) ?_
 refine gF (fun hg => Qe (hx := u_ hg)) ?_
 refine gF (fun hg => Qd (hx := u_ hg)) ?_
 refine gF (fun hg => Qn (hx := u_ hg)) ?_
 (first | refine gF (fun hg => QR (hx := u_ hg)) ?_ | refine gF (fun hg => QP (hx := u_ hg)) ?_)
 refine gF (fun hg => XZ (hx := u_ hg) (hy := u_ hg)) ?_
 refine s_ Yc <| s_ Qc <| zC ?_
 refine ci ?_ ?_
 ·intro hf
  simp only [List.length_map] at hf
  have hA : VZ ⟨left, odd, decide p, log, synced, snap, room⟩ n = (⟨left, odd, decide p, log, synced, snap, room⟩, 1) := by
   unfold VZ
   rw [if_neg (by simpa using hp), if_pos hf]
  rw [hA]
  refine zC ?_
  refine cr <| s_ Qc <| zC ?_
  refine zR ?_
  exact rh kR ⟨rfl, rfl⟩ (Le.refl _)
 intro hf
 simp only [List.length_map] at hf
 have hA : VZ ⟨left, odd, decide p, log, synced, snap, room⟩ n = (if q ∨ odd = 0 then ⟨left1, odd, dead1, log.take n.toNat, n, snap, room⟩ else ⟨left1, odd, dead1, log, synced, snap, room⟩, if decide q then 0 else 20) := by
  unfold VZ
  rw [if_neg (by simpa using hp), if_neg hf, hsp]
  simp only [decide_eq_true_eq]
 rw [hA]
 have ho := W0 (log.take n.toNat) (by rw [List.length_take]; omega)
 refine zC ?_
 refine cr <| s_ Qa <| s_ Qe <| s_ Qd ?_
 refine QN hsf (fun r H' ⟨hr1, hr2⟩ => ?_)
 subst hr1 hr2
 show Qf _ _ _ _ ((27, .v (.bool (decide q))) :: _) [(b, ⟨tD, [ei left1, ei odd, .v (.bool dead1), .sl false (log.map eb), ei synced, .sl false (snap.map eb), ei room], 7⟩)] _
 refine s_ Qc <| zC ?_
 refine cr <| s_ Qa <| s_ Qa <| gF (fun hg => Qa) ?_
 refine gF (fun hg => Qe (hx := u_ hg)) ?_
 refine gF (fun hg => Qd (hx := u_ hg)) ?_
 refine gF (fun hg => Qd (hx := u_ hg)) ?_
 refine gF (fun hg => Qn (hx := u_ hg)) ?_
 refine gF (fun hg => Xy (hx := u_ hg)) ?_
 refine s_ Yc <| zC ?_
 refine ci ?_ ?_
 ·intro ho2
  rw [if_pos ho2]
  refine zC ?_
  refine cr <| s_ Qa <| s_ Qa <| s_ Qa <| s_ Qe <| s_ Qd <| s_ Qn <| s_ Qa <| s_ (Od (i := n) (xs := log.map eb) (ys := (log.take n.toNat).map eb) (by rw [List.map_take]) (h2 := by simp only [List.length_map]; omega)) <| s_ (QM (ho)) <| s_ Qa <| s_ Qe <| s_ Qd <| QC ?_
  refine s_ Qe <| s_ Qd <| QC ?_
  refine zC ?_
  refine cr <| s_ Qa <| s_ XY <| zC ?_
  refine ci ?_ ?_
  ·intro hq
   refine zC ?_
   refine cr <| s_ Qc <| zC ?_
   refine zR ?_
   refine rh kR ⟨?_, rfl⟩ (Le.refl _)
   simp [hq]; rfl
  ·intro hq
   refine zC ?_
   refine cr <| s_ Qc <| zC ?_
   refine zR ?_
   refine rh kR ⟨?_, rfl⟩ (Le.refl _)
   simp [Decidable.not_not.1 hq]; rfl
 ·intro ho2
  rw [if_neg ho2]
  refine zC ?_
  refine cr <| s_ Qa <| s_ XY <| zC ?_
  refine ci ?_ ?_
  ·intro hq
   refine zC ?_
   refine cr <| s_ Qc <| zC ?_
   refine zR ?_
   refine rh kR ⟨?_, rfl⟩ (Le.refl _)
   simp [hq]; rfl
  ·intro hq
   exact absurd (.inl (Decidable.not_not.1 hq)) ho2
def Zr (d : Dk) (x : List UInt8) : Dk × Int := if d.dead then (d, 20) else if d.room < x.length then (d, 19) else
 (if (QQ d).2 = true ∨ d.odd = 0 then { (QQ d).1 with snap := x, log := [], synced := 0 } else (QQ d).1, if (QQ d).2 then 0 else 20)
theorem RA (b : Nat) (d : Dk) (x : List UInt8) (hd : Ux d) (hx : x.length ≤ 1000000000) : FnH Tryz.prog 169 [pW b, bl x] (DkH b d) (fun r H => r = ei (Zr d x).2 ∧ H = DkH b (Zr d x).1) := by
 have hsf := JX b d hd
 obtain ⟨left1, dead1, done, hsp⟩ := Y9 d
 obtain ⟨left, odd, dead, log, synced, snap, room⟩ := d
 obtain ⟨p, ip, rfl⟩ := YF dead
 simp only at hsp
 rw [hsp] at hsf
 obtain ⟨q, iq, rfl⟩ := YF done
 have ho := W0 x (by omega)
 refine fe Tryz.func169 fun S0 w0 => ?_
 show Sim _ _ [(0, pW b), (1, .sl false (x.map eb))] [(b, ⟨tD, [ei left, ei odd, .v (.bool (decide p)), .sl false (log.map eb), ei synced, .sl false (snap.map eb), ei room], 7⟩)] _
 refine zC ?_
 refine cr <| s_ Qc <| zC ?_
 refine cr <| s_ Qa <| s_ Qe <| s_ Qd <| s_ Qd <| s_ Qn <| s_ Qc <| zC ?_
 refine ci ?_ ?_
 ·intro hp
  have hA : Zr ⟨left, odd, decide p, log, synced, snap, room⟩ x = (⟨left, odd, decide p, log, synced, snap, room⟩, 20) := by
   unfold Zr
   rw [if_pos (by simpa using hp)]
  rw [hA]
  refine zC ?_
  refine cr <| s_ Qc <| zC ?_
  refine zR ?_
  exact rh kR ⟨rfl, rfl⟩ (Le.refl _)
 intro hp
 refine zC ?_
 refine cr <| s_ Qa ?_
 (first | refine s_ QR ?_ | refine s_ QP ?_)
 refine s_ Qa <| s_ Qe <| s_ Qd <| s_ Qn <| s_ XZ <| s_ Qc <| zC ?_
 refine ci ?_ ?_
 ·intro hf
  simp only [List.length_map] at hf
  have hA : Zr ⟨left, odd, decide p, log, synced, snap, room⟩ x = (⟨left, odd, decide p, log, synced, snap, room⟩, 19) := by
   unfold Zr
   rw [if_neg (by simpa using hp), if_pos hf]
  rw [hA]
  refine zC ?_
  refine cr <| s_ Qc <| zC ?_
  refine zR ?_
  exact rh kR ⟨rfl, rfl⟩ (Le.refl _)
 intro hf
 simp only [List.length_map] at hf
 have hA : Zr ⟨left, odd, decide p, log, synced, snap, room⟩ x = (if q ∨ odd = 0 then ⟨left1, odd, dead1, [], 0, x, room⟩ else ⟨left1, odd, dead1, log, synced, snap, room⟩, if decide q then 0 else 20) := by
  unfold Zr
  rw [if_neg (by simpa using hp), if_neg hf, hsp]
  simp only [decide_eq_true_eq]
 rw [hA]
 refine zC ?_
 refine cr <| s_ Qa <| s_ Qe <| s_ Qd ?_
 refine QN hsf (fun r H' ⟨hr1, hr2⟩ => ?_)
 subst hr1 hr2
 show Qf _ _ _ _ ((23, .v (.bool (decide q))) :: _) [(b, ⟨tD, [ei left1, ei odd, .v (.bool dead1), .sl false (log.map eb), ei synced, .sl false (snap.map eb), ei room], 7⟩)] _
 refine s_ Qc <| zC ?_
 refine cr <| s_ Qa <| s_ Qa <| gF (fun hg => Qa) ?_
 refine gF (fun hg => Qe (hx := u_ hg)) ?_
 refine gF (fun hg => Qd (hx := u_ hg)) ?_
 refine gF (fun hg => Qd (hx := u_ hg)) ?_
 refine gF (fun hg => Qn (hx := u_ hg)) ?_
 refine gF (fun hg => Xy (hx := u_ hg)) ?_
 refine s_ Yc <| zC ?_
 refine ci ?_ ?_
 ·intro ho2
  rw [if_pos ho2]
  refine zC ?_
  refine cr <| s_ Qa <| s_ Qa <| s_ Qa <| s_ Qa <| s_ (QM (ho)) <| s_ Qe <| s_ Qd <| QC ?_
  refine s_ Qe <| s_ Qd <| QC ?_
  refine s_ Qe <| s_ Qd <| QC ?_
  refine zC ?_
  refine cr <| s_ Qa <| s_ XY <| zC ?_
  refine ci ?_ ?_
  ·intro hq
   refine zC ?_
   refine cr <| s_ Qc <| zC ?_
   refine zR ?_
   refine rh (H' := DkH b ⟨left1, odd, dead1, [], 0, x, room⟩) (kK kR) ⟨?_, rfl⟩ (Le.refl _)
   simp [hq]; rfl
  ·intro hq
   refine zC ?_
   refine cr <| s_ Qc <| zC ?_
   refine zR ?_
   refine rh (H' := DkH b ⟨left1, odd, dead1, [], 0, x, room⟩) (kK kR) ⟨?_, rfl⟩ (Le.refl _)
   simp [Decidable.not_not.1 hq]; rfl
 ·intro ho2
  rw [if_neg ho2]
  refine zC ?_
  refine cr <| s_ Qa <| s_ XY <| zC ?_
  refine ci ?_ ?_
  ·intro hq
   refine zC ?_
   refine cr <| s_ Qc <| zC ?_
   refine zR ?_
   refine rh kR ⟨?_, rfl⟩ (Le.refl _)
   simp [hq]; rfl
  ·intro hq
   exact absurd (.inl (Decidable.not_not.1 hq)) ho2
theorem DP (n : Int) (h0 : 1 ≤ n) (h1 : n ≤ 16777216) : FnH Tryz.prog 26 [ei n] [] (fun r H => ∃ b, r = .tup [pW b, ei 0] ∧ H = DkH b ⟨0, 0, false, [], 0, [], n⟩) := by
 refine fe Tryz.func26 fun S0 w0 => ?_
 show Sim _ _ [(0, ei n)] _ _
 refine zC ?_
 refine cr <| s_ Qc <| s_ Qc <| zC ?_
 refine cr <| s_ Qa <| s_ QX <| s_ Qa <| gF (fun hg => Qa) ?_
 refine gF (fun hg => XZ (hx := u_ hg)) ?_
 refine s_ Yc <| zC ?_
 refine ci ?_ ?_
 ·intro h; exact absurd h (by omega)
 intro _
 refine zC ?_
 refine cr <| s_ Qa <| s_ (ZA 7 [_, _, _, _, _, _, _]) ?_
 refine XO fun b12 _ => ?_
 refine s_ Qc <| s_ Qc <| zC ?_
 refine zR ?_
 exact rh (H' := DkH b12 ⟨0, 0, false, [], 0, [], n⟩) (kK kR) ⟨_, rfl, rfl⟩ (Le.refl _)
theorem D9 (b : Nat) (d : Dk) : FnH Tryz.prog 74 [pW b] (DkH b d) (fun r H => r = eB d.dead ∧ H = DkH b d) := by
 refine fe Tryz.func74 fun S0 w0 => ?_
 show Sim _ _ [(0, pW b)] (DkH b d) _
 unfold DkH dkC
 refine zC ?_
 refine cr <| s_ Qc <| zC ?_
 refine cr <| s_ Qa <| s_ Qe <| s_ Qd <| s_ Qn <| s_ Qc <| zC ?_
 refine zR ?_
 exact rh kR ⟨rfl, rfl⟩ (Le.refl _)
theorem Is (b : Nat) (d : Dk) (hd : Ux d) : FnH Tryz.prog 94 [pW b] (DkH b d) (fun r H => r = bl d.log ∧ H = DkH b d) := by
 have hu := hd.used
 have ho := W0 d.log (by omega)
 refine fe Tryz.func94 fun S0 w0 => ?_
 show Sim _ _ [(0, pW b)] (DkH b d) _
 unfold DkH dkC
 refine zC ?_
 refine cr <| s_ Qc <| zC ?_
 refine cr <| s_ Qa <| s_ Qe <| s_ Qd <| s_ Qn <| s_ (QM (ho)) <| s_ Qc <| zC ?_
 refine zR ?_
 exact rh kR ⟨rfl, rfl⟩ (Le.refl _)
theorem Ra (b : Nat) (d : Dk) (hd : Ux d) : FnH Tryz.prog 92 [pW b] (DkH b d) (fun r H => r = bl d.snap ∧ H = DkH b d) := by
 have hu := hd.used
 have ho := W0 d.snap (by omega)
 refine fe Tryz.func92 fun S0 w0 => ?_
 show Sim _ _ [(0, pW b)] (DkH b d) _
 unfold DkH dkC
 refine zC ?_
 refine cr <| s_ Qc <| zC ?_
 refine cr <| s_ Qa <| s_ Qe <| s_ Qd <| s_ Qn <| s_ (QM (ho)) <| s_ Qc <| zC ?_
 refine zR ?_
 exact rh kR ⟨rfl, rfl⟩ (Le.refl _)
def JW (d : Dk) (pick : Int) : Int := let n := (d.log.length : Int) - d.synced + 1; ((pick.tmod n) + n).tmod n
def Lo (d : Dk) (pick : Int) : Dk := { d with left := 0, odd := 0, dead := false, log := d.log.take (d.synced + JW d pick).toNat, synced := ((d.log.take (d.synced + JW d pick).toNat).length : Nat) }
theorem Uz (d : Dk) (pick : Int) (h0 : 0 ≤ d.synced) (h1 : d.synced ≤ d.log.length) : 0 ≤ JW d pick ∧ JW d pick ≤ (d.log.length : Int) - d.synced := by
 unfold JW
 obtain ⟨n, hn⟩ : ∃ n, n = (d.log.length : Int) - d.synced + 1 := ⟨_, rfl⟩
 rw [← hn]
 have hp : 0 < n := by omega
 have h2 := GF pick n hp
 have h3 : 0 ≤ pick.tmod n + n := by
  have := Int.emod_nonneg pick (show n ≠ 0 by omega)
  by_cases h : pick.tmod n < 0
  ·rw [h2.1 h]; exact this
  ·omega
 have h4 := Int.tmod_nonneg n h3
 have h5 := Int.tmod_lt_of_pos (pick.tmod n + n) hp
 show 0 ≤ (pick.tmod n + n).tmod n ∧ (pick.tmod n + n).tmod n ≤ _
 omega
def tJ : TypeId := 157
def JrH (bj bd : Nat) (n : Int) (d : Dk) : Qb := (bj, ⟨tJ, [pW bd, ei n], 2⟩) :: DkH bd d
theorem Mw (bj bd : Nat) (n : Int) (d : Dk) : FnH Tryz.prog 161 [pW bj] (JrH bj bd n d) (fun r H => r = ei n ∧ H = JrH bj bd n d) := by
 refine fe Tryz.func161 fun S0 w0 => ?_
 show Sim _ _ [(0, pW bj)] (JrH bj bd n d) _
 unfold JrH
 refine zC ?_
 refine cr <| s_ Qc <| zC ?_
 refine cr <| s_ Qa <| s_ Qe <| s_ Qd <| s_ Qn <| s_ Qc <| zC ?_
 refine zR ?_
 exact rh kR ⟨rfl, rfl⟩ (Le.refl _)
def XH (n : Int) (d : Dk) (x : List UInt8) : Int × Dk × Int :=
 let a := JR d (Qq x)
 if a.2 = 0 then let s := ZX a.1; if s.2 = 0 then (n + 1, s.1, 0) else (n, s.1, s.2) else (n, a.1, a.2)
theorem DY (bj bd : Nat) (n : Int) (d : Dk) (x : List UInt8) (hd : Ux d) (hd2 : Ux (JR d (Qq x)).1) (hx : x.length ≤ 4194304) (h0 : 0 ≤ n) (h1 : n ≤ 1000) :
  FnH Tryz.prog 162 [pW bj, bl x] (JrH bj bd n d) (fun r H => r = ei (XH n d x).2.2 ∧ H = JrH bj bd (XH n d x).1 (XH n d x).2.1) := by
 have hf := Mm false x hx
 have hfl := Xv x
 have ha := Mr bd d (Qq x) hd (by omega)
 have hs := Rz bd (JR d (Qq x)).1 hd2
 obtain ⟨⟨d1, e1⟩, hap⟩ : ∃ a, JR d (Qq x) = a := ⟨_, rfl⟩
 obtain ⟨⟨d2, e2⟩, hsy⟩ : ∃ a, ZX d1 = a := ⟨_, rfl⟩
 rw [hap] at ha hs
 simp only at ha hs
 rw [hsy] at hs
 simp only at hs
 have hA : XH n d x = if e1 = 0 then (if e2 = 0 then (n + 1, d2, 0) else (n, d2, e2)) else (n, d1, e1) := by
  unfold XH
  rw [hap]
  simp only
  rw [hsy]
 rw [hA]
 refine fe Tryz.func162 fun S0 w0 => ?_
 show Sim _ _ [(0, pW bj), (1, bl x)] (JrH bj bd n d) _
 unfold JrH
 refine zC ?_
 refine cr <| s_ Qc <| zC ?_
 refine cr <| s_ Qa <| s_ (QM (hf)) <| s_ Qa <| s_ QH <| s_ QH <| s_ Qc <| s_ Qc <| zC ?_
 refine zC ?_
 refine cr <| s_ Qa <| s_ Xy <| zC ?_
 refine ci ?_ ?_
 rotate_left
 ·intro h; exact absurd rfl h
 intro _
 refine zC ?_
 refine cr <| s_ Qa <| s_ Qe <| s_ Qd <| s_ Qn <| s_ Qa ?_
 refine Q1 (Hr := [_]) ha (List.perm_append_comm (l₁ := [_])) (fun r H' ⟨hr1, hr2⟩ => ?_)
 subst hr1 hr2
 refine QJ List.perm_append_comm ?_
 refine s_ Qc <| zC ?_
 refine cr <| s_ Qa <| s_ Xy <| zC ?_
 refine ci ?_ ?_
 ·intro he1
  have he1' : e1 = 0 := he1
  rw [if_pos he1']
  refine zC ?_
  refine cr <| s_ Qa <| s_ Qe <| s_ Qd <| s_ Qn ?_
  refine Q1 (Hr := [_]) hs (List.perm_append_comm (l₁ := [_])) (fun r H' ⟨hr1, hr2⟩ => ?_)
  subst hr1 hr2
  refine QJ List.perm_append_comm ?_
  refine s_ Qc <| zC ?_
  refine cr <| s_ Qa <| s_ Xy <| zC ?_
  refine ci ?_ ?_
  ·intro he2
   have he2' : e2 = 0 := he2
   rw [if_pos he2']
   subst he2'
   refine zC ?_
   refine cr <| s_ Qa <| s_ Qe <| s_ Qd <| s_ Qn <| s_ Q5 <| s_ Qe <| s_ Qd <| QC ?_
   refine zC ?_
   refine cr <| s_ Qa <| s_ Qc <| zC ?_
   refine zR ?_
   exact rh kR ⟨rfl, rfl⟩ (Le.refl _)
  ·intro he2
   have he2' : ¬ e2 = 0 := he2
   rw [if_neg he2']
   refine zC ?_
   refine cr <| s_ Qa <| s_ Qc <| zC ?_
   refine zR ?_
   exact rh kR ⟨rfl, rfl⟩ (Le.refl _)
 ·intro he1
  have he1' : ¬ e1 = 0 := he1
  rw [if_neg he1']
  refine zC ?_
  refine cr <| s_ Qa <| s_ Xy <| zC ?_
  refine ci ?_ ?_
  ·intro h; exact absurd h he1
  intro _
  refine zC ?_
  refine cr <| s_ Qa <| s_ Qc <| zC ?_
  refine zR ?_
  exact rh kR ⟨rfl, rfl⟩ (Le.refl _)
def Xh (n : Int) (d : Dk) (x : List UInt8) : Int × Dk × Int := let a := Zr d (Qq x); if a.2 = 0 then (0, a.1, 0) else (n, a.1, a.2)
theorem OC (bj bd : Nat) (n : Int) (d : Dk) (x : List UInt8) (hd : Ux d) (hx : x.length ≤ 4194304) :
  FnH Tryz.prog 163 [pW bj, bl x] (JrH bj bd n d) (fun r H => r = ei (Xh n d x).2.2 ∧ H = JrH bj bd (Xh n d x).1 (Xh n d x).2.1) := by
 have hf := Mm false x hx
 have hfl := Xv x
 have ha := RA bd d (Qq x) hd (by omega)
 obtain ⟨⟨d1, e1⟩, hap⟩ : ∃ a, Zr d (Qq x) = a := ⟨_, rfl⟩
 rw [hap] at ha
 simp only at ha
 have hA : Xh n d x = if e1 = 0 then (0, d1, 0) else (n, d1, e1) := by
  unfold Xh
  rw [hap]
 rw [hA]
 refine fe Tryz.func163 fun S0 w0 => ?_
 show Sim _ _ [(0, pW bj), (1, bl x)] (JrH bj bd n d) _
 unfold JrH
 refine zC ?_
 refine cr <| s_ Qc <| zC ?_
 refine cr <| s_ Qa <| s_ (QM (hf)) <| s_ Qa <| s_ QH <| s_ QH <| s_ Qc <| s_ Qc <| zC ?_
 refine zC ?_
 refine cr <| s_ Qa <| s_ Xy <| zC ?_
 refine ci ?_ ?_
 rotate_left
 ·intro h; exact absurd rfl h
 intro _
 refine zC ?_
 refine cr <| s_ Qa <| s_ Qe <| s_ Qd <| s_ Qn <| s_ Qa ?_
 refine Q1 (Hr := [_]) ha (List.perm_append_comm (l₁ := [_])) (fun r H' ⟨hr1, hr2⟩ => ?_)
 subst hr1 hr2
 refine QJ List.perm_append_comm ?_
 refine s_ Qc <| zC ?_
 refine cr <| s_ Qa <| s_ Xy <| zC ?_
 refine ci ?_ ?_
 ·intro he1
  have he1' : e1 = 0 := he1
  rw [if_pos he1']
  subst he1'
  refine zC ?_
  refine cr <| s_ Qa <| s_ Qe <| s_ Qd <| QC ?_
  refine zC ?_
  refine cr <| s_ Qa <| s_ Qc <| zC ?_
  refine zR ?_
  exact rh kR ⟨rfl, rfl⟩ (Le.refl _)
 ·intro he1
  have he1' : ¬ e1 = 0 := he1
  rw [if_neg he1']
  refine zC ?_
  refine cr <| s_ Qa <| s_ Qc <| zC ?_
  refine zR ?_
  exact rh kR ⟨rfl, rfl⟩ (Le.refl _)
end Go.Proofs.YtjbokbikkcfjjaaGreat
namespace Go.Proofs.YtjbokbikkcfjjaaGreat
open Go.Cap
attribute [local irreducible] V0 ZG
def LB : Option (List UInt8) → List UInt8
 | none => []
 | some s => Qq s
def JD (d : Dk) (l : List (List UInt8)) (tl : List UInt8) : Dk := if tl = [] then d else { d with log := l.flatMap Qq, synced := (l.flatMap Qq).length }
theorem Oi {H : Qb} {b5 : Nat} (v2 v3 v4 : Value) (hm : (b5, (⟨25, [ei 0], 1⟩ : Blk)) ∈ H) : DfH Tryz.prog 91 #[.pointer (some ⟨b5, 0, none⟩), v2, v3, v4] H (fun H' => H' = H) := by
 refine Wx Tryz.func91 (vs := [.pointer (some ⟨b5, 0, none⟩), v2, v3, v4]) (by rfl) (by rfl) (by rfl) ?_
 intro S0 w0
 show Sim _ _ [(0, pW b5), (1, .v v2), (2, .v v3), (3, .v v4)] H _
 refine zC ?_
 refine cr <| s_ (Qn (hi := hm)) <| s_ Yw <| zC ?_
 refine ci ?_ ?_
 ·intro h; exact absurd rfl h
 intro _
 refine zC ?_
 exact ⟨.inl rfl, _, kR, rfl⟩
theorem GM {d : Dk} (hdead : d.dead = false) (hleft : d.left = 0) : QQ d = (d, true) := by
 unfold QQ
 rw [if_neg (by omega), hdead]
 rfl
theorem Rd {d : Dk} {l : List (List UInt8)} {tl : List UInt8} (hdead : d.dead = false) (hleft : d.left = 0) (hlog : d.log = l.flatMap Qq ++ tl) (htl : tl ≠ []) : VZ d ((l.flatMap Qq).length : Nat) = (JD d l tl, 0) := by
 have ht : d.log.take (((l.flatMap Qq).length : Nat) : Int).toNat = l.flatMap Qq := by rw [hlog, Int.toNat_natCast, List.take_left' rfl]
 have hle : (l.flatMap Qq).length ≤ d.log.length := by rw [hlog, List.length_append]; omega
 unfold VZ JD
 rw [GM hdead hleft, hdead, ht, if_neg (by simp), if_neg (by omega), if_neg htl, if_pos (.inl rfl), if_pos rfl]
 simp [hdead]
theorem Oh (bd : Nat) (d : Dk) (so : Option (List UInt8)) (l : List (List UInt8)) (tl : List UInt8) (hd : Ux d) (hdead : d.dead = false) (hleft : d.left = 0) (hso : d.snap = LB so) (hsl : ∀ s, so = some s → s.length ≤ 4194304) (hlog : d.log = l.flatMap Qq ++ tl) (hst : Dr tl) (hl : ∀ x ∈ l, x.length ≤ 4194304) :
  FnH Tryz.prog 65 [pW bd] (DkH bd d) (fun r H => ∃ bj, r = .tup [pW bj, bl (so.getD []), tBl l, ei 0] ∧ H = JrH bj bd l.length (JD d l tl)) := by
 have hu := hd.used
 have hde := D9 bd d
 rw [hdead] at hde
 have hsn := Ra bd d hd
 have hlg := Is bd d hd
 have hsc := RG l tl hst hl (by rw [← hlog]; omega)
 rw [← hlog] at hsc
 have hct := Cv bd d ((l.flatMap Qq).length : Nat) hd
 refine Ju Tryz.func65 (by rfl) (by rfl) ?_
 intro S0 w0 hw0
 show V0 _ _ _ [(0, pW bd)] (DkH bd d) _
 refine Jc ?_
 refine zC ?_
 apply cr
 refine Yt fun b2 _ => ?_
 refine Yt fun b3 _ => ?_
 refine Yt fun b4 _ => ?_
 refine Yt fun b5 _ => ?_
 refine zC ?_
 refine ⟨rfl, ?_⟩
 refine Jc ?_
 refine zC ?_
 refine cr <| s_ Qa <| s_ Qe <| s_ Qd ?_
 refine Q1 (Hr := [_, _, _, _]) hde (List.perm_append_comm (l₁ := [_, _, _, _])) (fun r H' ⟨hr1, hr2⟩ => ?_)
 subst hr1 hr2
 refine zC ?_
 refine ci (p := False) (fun h => h.elim) (fun _ => ?_)
 refine zC ?_
 refine ⟨rfl, ?_⟩
 refine Zb ?_
 refine d_s J8 ?_
 refine UZ [.pointer (some ⟨b5, 0, none⟩), .pointer (some ⟨b2, 0, none⟩), .pointer (some ⟨b3, 0, none⟩), .pointer (some ⟨b4, 0, none⟩)] ?_ rfl rfl (zl)
 refine JZ hw0 ?_
 refine zC ?_
 refine cr <| s_ Qa ?_
 refine Q1 (Hr := [_, _, _, _]) hsn (.refl _) (fun r H' ⟨hr1, hr2⟩ => ?_)
 subst hr1 hr2
 refine s_ Qc <| zC ?_
 refine cr <| s_ Qa ?_
 (first | refine s_ QR ?_ | refine s_ QP ?_)
 refine s_ XZ <| zC ?_
 refine Jn [(0, pW bd), (2, pW b2), (3, pW b3), (4, pW b4), (5, pW b5)] (DkH bd d ++ [(b5, ⟨25, [ei 0], 1⟩), (b4, ⟨117, [.v (.slice none 0 0)], 1⟩), (b3, ⟨34, [bl (so.getD [])], 1⟩), (b2, ⟨91, [.v (.pointer none)], 1⟩)]) ?_ ?_
 ·refine ci ?_ ?_
  ·intro hpos
   rcases so with _ | s
   ·exact absurd hpos (by rw [hso]; simp [LB])
   have h1 := Ch s (hsl s rfl)
   have hso' : d.snap = Qq s := hso
   rw [hso']
   refine zC ?_
   refine cr <| s_ Qa <| s_ (QM (h1)) <| s_ Qa <| s_ QH <| s_ QH <| QC ?_
   refine QC ?_
   refine zC ?_
   refine cr <| s_ Qn <| s_ Yw <| zC ?_
   refine ci ?_ ?_
   ·intro h; exact absurd rfl h
   intro _
   refine zC ?_
   exact ⟨eL, kR⟩
  ·intro hpos
   rcases so with _ | s
   ·refine zC ?_
    exact ⟨eL, kH (kK (kK (kK kR)))⟩
   ·refine absurd ?_ hpos
    have := Xv s
    have hso' : d.snap = Qq s := hso
    rw [hso', List.length_map]; omega
 refine zC ?_
 refine cr <| s_ Qa ?_
 refine Q1 (Hr := [_, _, _, _]) hlg (.refl _) (fun r H' ⟨hr1, hr2⟩ => ?_)
 subst hr1 hr2
 refine s_ Qc <| zC ?_
 refine cr <| s_ Qa <| s_ (QM (hsc)) <| s_ Qa <| s_ QH <| s_ QH <| QC ?_
 refine s_ Qc <| zC ?_
 refine cr <| s_ Qa <| s_ J8 <| s_ Qc <| zC ?_
 refine cr <| s_ Qa <| s_ Qa ?_
 (first | refine s_ QR ?_ | refine s_ QP ?_)
 refine s_ QX <| zC ?_
 refine Jn [(0, pW bd), (2, pW b2), (3, pW b3), (4, pW b4), (5, pW b5)] (DkH bd (JD d l tl) ++ [(b5, ⟨25, [ei 0], 1⟩), (b4, ⟨117, [tBl l], 1⟩), (b3, ⟨34, [bl (so.getD [])], 1⟩), (b2, ⟨91, [.v (.pointer none)], 1⟩)]) ?_ ?_
 ·refine ci ?_ ?_
  ·intro hlt
   have htl : tl ≠ [] := by
    rintro rfl
    rw [hlog, List.append_nil, List.length_map] at hlt
    omega
   have hcf := Rd hdead hleft hlog htl
   rw [hcf] at hct
   refine zC ?_
   refine cr <| s_ Qa <| s_ Qa ?_
   refine JO (fs := [pW bd]) (args := [ei ((l.flatMap Qq).length : Nat)]) (cs := []) hct (Hr := [_, _, _, _]) (.refl _) (fun r H' ⟨hr1, hr2⟩ => ?_)
   subst hr1 hr2
   refine QC ?_
   refine zC ?_
   exact ⟨eL, kR⟩
  ·intro hge
   have htl : tl = [] := by
    rw [hlog, List.length_map, List.length_append] at hge
    exact List.length_eq_zero_iff.1 (by omega)
   have ho : JD d l tl = d := if_pos htl
   rw [ho]
   refine zC ?_
   exact ⟨eL, kR⟩
 refine zC ?_
 refine ca [0, 1, 2, 3, 5, 6, 7, 4, 8, 9, 10, 11] [4, 8, 9, 10, 11] <| a_ (fun _ => Qa) <| QF ?_
 (first | refine a_ (fun _ => QR) ?_ | refine a_ (fun _ => QP) ?_)
 refine a_ (fun _ => ZA 2 [_, _]) <| QF ?_
 refine QF ?_
 refine QF ?_
 refine BK fun b47 _ => ⟨zd, ?_⟩
 refine XJ ?_
 refine XJ ?_
 refine XJ ?_
 refine XJ ?_
 apply an
 refine zC ?_
 apply X1
 refine ⟨_, Oi _ _ _ (zm), ?_⟩
 rintro H1 rfl
 refine ⟨_, _, JrH b47 bd l.length (JD d l tl), zrs, Le.refl _, ⟨b47, rfl, rfl⟩, Qh.le ?_⟩
 refine .keep _ _ _ _ _ ?_ (.keep _ _ _ _ _ (XX.refl _) (.nil _))
 refine Rj rfl ?_ rfl rfl
 refine LeL.cons (Le.refl _) (LeL.cons (Le.of_eq ?_) LeL.nil)
 rw [List.length_map]
 rfl
end Go.Proofs.YtjbokbikkcfjjaaGreat
